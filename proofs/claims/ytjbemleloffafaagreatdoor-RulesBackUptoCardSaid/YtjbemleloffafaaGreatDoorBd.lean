/- EsD, EsE, EsF, EtA, GtP, TgQ, GtB, GrF, GtC, ClA, ClB, ClC, TgB, TgC, TgD, TgE, TgF, TgG, TgH, TgI, RuP: texts of this claim, put together in build order by program. -/
import Derived.Test.YtjbemleloffafaaGreatDoorBc
import Derived.Shelf.Strings.Split
import Derived.Shelf.Strings.OnBuilder
import Derived.Shelf.Unicode.ValidAny
import Derived.Shelf.Strings.Cut
/- label.Unescape, and the document's Escape and Unescape: their loops. -/
namespace Go.Proofs.YtjbemleloffafaaGreatDoor.V
open Go
set_option maxRecDepth 100000
set_option linter.unusedVariables false
set_option linter.unusedSimpArgs false
variable {mx : Int}

def unR (out : List UInt8) (o : Option (List UInt8)) : AV := match o with
  | some r => .tuple [.s (out ++ r), .i .i64 0]
  | none => .tuple [.s [], .i .i64 5]
theorem unR_more (out : List UInt8) (b : UInt8) (o : Option (List UInt8)) : unR out (o.map (b :: ·)) = unR (out ++ [b]) o := by
  cases o <;> simp [unR]
theorem dgt (c : UInt8) : idxZ ([48, 49, 50, 51, 52, 53, 54, 55, 56, 57, 65, 66, 67, 68, 69, 70] : List UInt8) (c.toNat : Int) = digV c :=
  (by decide +kernel : ∀ n : Nat, n < 256 → idxZ ([48, 49, 50, 51, 52, 53, 54, 55, 56, 57, 65, 66, 67, 68, 69, 70] : List UInt8) (n : Int) = digitZ (n : Int)) c.toNat c.toNat_lt
theorem dig_nat (c : UInt8) (h : ¬ digV c < 0) : ∃ a : Nat, a < 16 ∧ digV c = (a : Int) := by
  have := (by decide +kernel : ∀ n : Nat, n < 256 → digitZ (n : Int) < 16) c.toNat c.toNat_lt
  exact ⟨(digV c).toNat, by unfold digV at *; omega, by omega⟩
theorem byte_nat {h l : UInt8} {a b : Nat} (ha : a < 16) (hb : b < 16) (e1 : digV h = (a : Int)) (e2 : digV l = (b : Int)) : ((byteV h l).toNat : Int) = (a : Int) * 16 + (b : Int) := by
  unfold byteV
  rw [e1, e2]
  have : ((a : Int) * 16 + (b : Int)).toNat = a * 16 + b := by omega
  rw [this, UInt8.toNat_ofNat']
  omega
theorem val14 {h l : UInt8} (hh : ¬ digV h < 0) (hl : ¬ digV l < 0) : IntKind.wrap .u8 (IntKind.wrap .i64 ((BitVec.ofInt 64 (shlV .i64 (digV h) 4) ||| BitVec.ofInt 64 (digV l)).toNat : Int)) = ((byteV h l).toNat : Int) := by
  obtain ⟨a, ha, e1⟩ := dig_nat h hh
  obtain ⟨b, hb, e2⟩ := dig_nat l hl
  rw [byte_nat ha hb e1 e2, e1, e2]
  exact (by decide +kernel : ∀ a : Nat, a < 16 → ∀ b : Nat, b < 16 → IntKind.wrap .u8 (IntKind.wrap .i64 ((BitVec.ofInt 64 (shlV .i64 (a : Int) 4) ||| BitVec.ofInt 64 (b : Int)).toNat : Int)) = (a : Int) * 16 + (b : Int)) a ha b hb
theorem val15 {h l : UInt8} (hh : ¬ digV h < 0) (hl : ¬ digV l < 0) : IntKind.wrap .u8 (IntKind.wrap .i64 ((IntKind.wrap .i64 ((digV h) * 16)) + (digV l))) = ((byteV h l).toNat : Int) := by
  obtain ⟨a, ha, e1⟩ := dig_nat h hh
  obtain ⟨b, hb, e2⟩ := dig_nat l hl
  rw [byte_nat ha hb e1 e2, e1, e2]
  exact (by decide +kernel : ∀ a : Nat, a < 16 → ∀ b : Nat, b < 16 → IntKind.wrap .u8 (IntKind.wrap .i64 ((IntKind.wrap .i64 ((a : Int) * 16)) + (b : Int))) = (a : Int) * 16 + (b : Int)) a ha b hb
theorem is37 (c : UInt8) : ((c.toNat : Int) == 37) = decide (c = 37) := by
  by_cases h : c = 37
  · subst h; rfl
  · rw [decide_eq_false h]
    have : c.toNat ≠ 37 := fun e => h (UInt8.toNat_inj.1 (by rw [e]; rfl))
    simp; omega
theorem not37 : plainB 37 = false := by decide
theorem unV_37 (h l : UInt8) (r : List UInt8) : unV (37 :: h :: l :: r) = if digV h < 0 ∨ digV l < 0 then none else if plainB (byteV h l) = true then none else (unV r).map (byteV h l :: ·) := by simp [unV]
theorem ne37 {c : UInt8} (h : plainB c = true) : c ≠ 37 := fun e => by rw [e, not37] at h; simp at h

/-! ### label.Unescape -/
theorem un_goes : ∀ (n : Nat) (rest pre out s : List UInt8) (i : Int) (_ : rest.length ≤ n) (hs : s = pre ++ rest) (hi : i = (pre.length : Int)) (hl : s.length ≤ 1099511627776) (hb : out.length + rest.length ≤ 4398046511104),
    Goes (Γ mx) Hesc 32 3 ⟨[(0, .s s), (4, .ref 5 0), (5, .i .i64 i)], [some (.arr 5 (bytesD out) false)]⟩ (unR out (unV rest), [])
  | n, [], pre, out, s, i, hn, hs, hi, hl, hb => by
    subst hs hi
    refine Goes.step ⟨0, ?_⟩
    rw [r60_3b]
    have d1 : decide ((pre.length : Int) < (pre.length : Int)) = false := decide_eq_false (by omega)
    simp only [List.append_nil, d1, cond_false, kBytes_bytesD, unV, unR]
  | 0, c :: r, pre, out, s, i, hn, hs, hi, hl, hb => by simp at hn
  | n + 1, c :: r, pre, out, s, i, hn, hs, hi, hl, hb => by
    subst hs hi
    simp only [List.length_append, List.length_cons] at hl hb hn
    refine Goes.step ?_
    have d1 : decide ((pre.length : Int) < ((pre ++ c :: r).length : Int)) = true := decide_eq_true (by simp <;> omega)
    have hw : IntKind.wrap .i64 ((pre.length : Int) + 1) = (pre.length : Int) + 1 := wrap_id (by omega) (by omega)
    have hw2 : IntKind.wrap .i64 ((pre.length : Int) + 2) = (pre.length : Int) + 2 := wrap_id (by omega) (by omega)
    have hw3 : IntKind.wrap .i64 ((pre.length : Int) + 2 + 1) = (pre.length : Int) + 2 + 1 := wrap_id (by omega) (by omega)
    have q1 : roomB (out.length + 1) 1 = true := room_ok (by omega)
    by_cases hc : c = 37
    · subst hc
      match r, hl, hb, hn with
      | [], hl, hb, hn =>
        refine ⟨0, ?_⟩
        rw [r60_3b]
        have d2 : decide (IntKind.wrap .i64 (((pre ++ [37]).length : Int) - (pre.length : Int)) < 3) = true := by
          have e : (((pre ++ [37]).length : Nat) : Int) - (pre.length : Int) = 1 := by simp <;> omega
          rw [e]; rfl
        simp only [d1, cond_true, idx_mid, is37, decide_true, d2]
        rfl
      | [d], hl, hb, hn =>
        refine ⟨0, ?_⟩
        rw [r60_3b]
        have d2 : decide (IntKind.wrap .i64 (((pre ++ [37, d]).length : Int) - (pre.length : Int)) < 3) = true := by
          have e : (((pre ++ [37, d]).length : Nat) : Int) - (pre.length : Int) = 2 := by simp <;> omega
          rw [e]; rfl
        simp only [d1, cond_true, idx_mid, is37, decide_true, d2]
        simp [unV, unR]
      | h :: l :: r', hl, hb, hn =>
        simp only [List.length_cons] at hl hb hn
        have d2 : decide (IntKind.wrap .i64 (((pre ++ 37 :: h :: l :: r').length : Int) - (pre.length : Int)) < 3) = false := by
          have e : (((pre ++ 37 :: h :: l :: r').length : Nat) : Int) - (pre.length : Int) = (r'.length : Int) + 3 := by simp <;> omega
          rw [e, wrap_id (by omega) (by omega)]
          exact decide_eq_false (by omega)
        rw [unV_37]
        by_cases h1 : digV h < 0
        · refine ⟨0, ?_⟩
          rw [r60_3b]
          simp only [d1, cond_true, cond_false, idx_mid, is37, decide_true, d2, hw, hw2, idx_mid1, idx_mid2, dgt, decide_eq_true h1, if_pos (Or.inl h1), unR]
        · by_cases h2 : digV l < 0
          · refine ⟨0, ?_⟩
            rw [r60_3b]
            simp only [d1, cond_true, cond_false, idx_mid, is37, decide_true, d2, hw, hw2, idx_mid1, idx_mid2, dgt, decide_eq_false h1, decide_eq_true h2, if_pos (Or.inr h2), unR]
          · rw [if_neg (by rintro (h | h) <;> contradiction)]
            cases hp : plainB (byteV h l) with
            | true =>
              refine ⟨0, ?_⟩
              rw [r60_3b]
              simp only [d1, cond_true, cond_false, idx_mid, is37, decide_true, d2, hw, hw2, idx_mid1, idx_mid2, dgt, decide_eq_false h1, decide_eq_false h2, val14 h1 h2, among_plain, hp, if_true, unR]
            | false =>
              obtain ⟨k, hk⟩ := un_goes n r' (pre ++ [37, h, l]) (out ++ [byteV h l]) (pre ++ 37 :: h :: l :: r') ((pre.length : Int) + 2 + 1) (by omega) (by simp) (by simp <;> omega) (by simp <;> omega) (by simp <;> omega)
              refine ⟨k, ?_⟩
              rw [r60_3b]
              simp only [d1, cond_true, cond_false, idx_mid, is37, decide_true, d2, hw, hw2, hw3, idx_mid1, idx_mid2, dgt, decide_eq_false h1, decide_eq_false h2, val14 h1 h2, among_plain, hp, bytesD_len, q1]
              rw [← bytesD_snoc, hk]
              simp only [Bool.false_eq_true, if_false, unR_more]
    · cases hp : plainB c with
      | true =>
        obtain ⟨k, hk⟩ := un_goes n r (pre ++ [c]) (out ++ [c]) (pre ++ c :: r) ((pre.length : Int) + 1) (by omega) (by simp) (by simp) (by simp <;> omega) (by simp <;> omega)
        refine ⟨k, ?_⟩
        rw [r60_3b]
        simp only [d1, cond_true, cond_false, idx_mid, is37, decide_eq_false hc, among_plain, hp, Bool.not_true, hw, bytesD_len, q1]
        rw [← bytesD_snoc, hk, unV_plain hc hp, unR_more]
      | false =>
        refine ⟨0, ?_⟩
        rw [r60_3b]
        simp only [d1, cond_true, cond_false, idx_mid, is37, decide_eq_false hc, among_plain, hp, Bool.not_false, unV_bad hc hp, unR]
end Go.Proofs.YtjbemleloffafaaGreatDoor.V

/- label.Unescape from its head on; the document's Escape and Unescape. -/
namespace Go.Proofs.YtjbemleloffafaaGreatDoor.V
open Go
set_option maxRecDepth 100000
set_option linter.unusedVariables false
set_option linter.unusedSimpArgs false
variable {mx : Int}

theorem i0 {R : Type} {α : Type} (r : List α) (c : α) (K : α → Option R) : idx (c :: r) 0 K = K c := idx_mid [] r c K
theorem i1 {R : Type} {α : Type} (r : List α) (c d : α) (K : α → Option R) : idx (c :: d :: r) 1 K = K d := idx_mid1 [] r c d K
theorem i2 {R : Type} {α : Type} (r : List α) (c d e : α) (K : α → Option R) : idx (c :: d :: e :: r) 2 K = K e := idx_mid2 [] r c d e K
theorem un_first (s : List UInt8) (hl : s.length ≤ 1099511627776) : Goes (Γ mx) Hesc 32 3 ⟨[(0, .s s), (4, .snil), (5, .i .i64 0)], []⟩ (unR [] (unV s), []) := by
  match s, hl with
  | [], hl => exact Goes.step ⟨0, by rw [r60_3a]; rfl⟩
  | c :: r, hl =>
    simp only [List.length_cons] at hl
    refine Goes.step ?_
    have d1 : decide ((0 : Int) < ((c :: r).length : Int)) = true := decide_eq_true (by simp <;> omega)
    have hw : IntKind.wrap .i64 ((0 : Int) + 1) = 1 := by decide
    have hw2 : IntKind.wrap .i64 ((0 : Int) + 2) = 2 := by decide
    have hw3 : IntKind.wrap .i64 ((2 : Int) + 1) = 3 := by decide
    by_cases hc : c = 37
    · subst hc
      match r, hl with
      | [], hl => exact ⟨0, by rw [r60_3a]; rfl⟩
      | [d], hl =>
        refine ⟨0, ?_⟩
        rw [r60_3a]
        have d2 : decide (IntKind.wrap .i64 (((([37, d] : List UInt8).length : Nat) : Int) - 0) < 3) = true := rfl
        simp only [d1, cond_true, i0, is37, decide_true, d2]
        simp [unV, unR]
      | h :: l :: r', hl =>
        simp only [List.length_cons] at hl
        have d2 : decide (IntKind.wrap .i64 ((((37 :: h :: l :: r').length : Nat) : Int) - 0) < 3) = false := by
          have e : (((37 :: h :: l :: r').length : Nat) : Int) - 0 = (r'.length : Int) + 3 := by simp <;> omega
          rw [e, wrap_id (by omega) (by omega)]
          exact decide_eq_false (by omega)
        rw [unV_37]
        by_cases h1 : digV h < 0
        · refine ⟨0, ?_⟩
          rw [r60_3a]
          simp only [d1, cond_true, cond_false, i0, is37, decide_true, d2, hw, hw2, i1, i2, dgt, decide_eq_true h1, if_pos (Or.inl h1), unR]
        · by_cases h2 : digV l < 0
          · refine ⟨0, ?_⟩
            rw [r60_3a]
            simp only [d1, cond_true, cond_false, i0, is37, decide_true, d2, hw, hw2, i1, i2, dgt, decide_eq_false h1, decide_eq_true h2, if_pos (Or.inr h2), unR]
          · rw [if_neg (by rintro (h | h) <;> contradiction)]
            cases hp : plainB (byteV h l) with
            | true =>
              refine ⟨0, ?_⟩
              rw [r60_3a]
              simp only [d1, cond_true, cond_false, i0, is37, decide_true, d2, hw, hw2, i1, i2, dgt, decide_eq_false h1, decide_eq_false h2, val14 h1 h2, among_plain, hp, if_true, unR]
            | false =>
              obtain ⟨k, hk⟩ := un_goes _ r' [37, h, l] [byteV h l] (37 :: h :: l :: r') 3 (Nat.le_refl _) (by simp) (by simp) (by simp <;> omega) (by simp <;> omega)
              refine ⟨k, ?_⟩
              rw [r60_3a]
              simp only [d1, cond_true, cond_false, i0, is37, decide_true, d2, hw, hw2, hw3, i1, i2, dgt, decide_eq_false h1, decide_eq_false h2, val14 h1 h2, among_plain, hp]
              rw [show [D.int .u8 ((byteV h l).toNat : Int)] = bytesD [byteV h l] from rfl, hk]
              simp only [Bool.false_eq_true, if_false, unR_more, List.nil_append]
    · cases hp : plainB c with
      | true =>
        obtain ⟨k, hk⟩ := un_goes _ r [c] [c] (c :: r) 1 (Nat.le_refl _) (by simp) (by simp) (by simp <;> omega) (by simp <;> omega)
        refine ⟨k, ?_⟩
        rw [r60_3a]
        simp only [d1, cond_true, cond_false, i0, is37, decide_eq_false hc, among_plain, hp, Bool.not_true, hw]
        rw [show [D.int .u8 (c.toNat : Int)] = bytesD [c] from rfl, hk, unV_plain hc hp, unR_more, List.nil_append]
      | false =>
        refine ⟨0, ?_⟩
        rw [r60_3a]
        simp only [d1, cond_true, cond_false, i0, is37, decide_eq_false hc, among_plain, hp, Bool.not_false, unV_bad hc hp, unR]
def unS (s : List UInt8) : List UInt8 := (unV s).getD []
def unE (s : List UInt8) : Int := bif (unV s).isSome then 0 else 5
theorem unR_eq (s : List UInt8) : unR [] (unV s) = .tuple [.s (unS s), .i .i64 (unE s)] := by
  unfold unR unS unE
  cases unV s <;> rfl
theorem un_ret {s : List UInt8} (hl : s.length ≤ 1099511627776) : RetX (Γ mx) 32 [.s s] [] (.tuple [.s (unS s), .i .i64 (unE s)]) [] := by
  refine ret_goes hP hZ esc_ok (by kernel_rfl) ?_
  obtain ⟨n, hn⟩ := un_first s hl
  exact ⟨n, by rw [r60, ← unR_eq]; exact hn⟩

/-! ### the document's -/
theorem plainZ_B (c : UInt8) : plainZ (c.toNat : Int) = plainB c := rfl
theorem cut_one (pre r : List UInt8) (c : UInt8) : List.take (Int.toNat ((pre.length : Int) + 1) - Int.toNat (pre.length : Int)) (List.drop (Int.toNat (pre.length : Int)) (pre ++ c :: r)) = [c] := by
  rw [show Int.toNat ((pre.length : Int) + 1) - Int.toNat (pre.length : Int) = 1 by omega, show Int.toNat (pre.length : Int) = pre.length by omega]
  simp
theorem hxA (c : UInt8) : List.take ((Int.toNat (IntKind.wrap .u8 ((IntKind.wrap .u8 (Int.tdiv ((c.toNat : Int)) 16)) + 1))) - (Int.toNat (IntKind.wrap .u8 (Int.tdiv ((c.toNat : Int)) 16)))) (List.drop (Int.toNat (IntKind.wrap .u8 (Int.tdiv ((c.toNat : Int)) 16))) hxL) = [hx (c.toNat / 16)] :=
  (by decide +kernel : ∀ n : Nat, n < 256 → List.take ((Int.toNat (IntKind.wrap .u8 ((IntKind.wrap .u8 (Int.tdiv ((n : Int)) 16)) + 1))) - (Int.toNat (IntKind.wrap .u8 (Int.tdiv ((n : Int)) 16)))) (List.drop (Int.toNat (IntKind.wrap .u8 (Int.tdiv ((n : Int)) 16))) hxL) = [hx (n / 16)]) c.toNat c.toNat_lt
theorem hxB (c : UInt8) : List.take ((Int.toNat (IntKind.wrap .u8 ((Int.tmod ((c.toNat : Int)) 16) + 1))) - (Int.toNat (Int.tmod ((c.toNat : Int)) 16))) (List.drop (Int.toNat (Int.tmod ((c.toNat : Int)) 16)) hxL) = [hx (c.toNat % 16)] :=
  (by decide +kernel : ∀ n : Nat, n < 256 → List.take ((Int.toNat (IntKind.wrap .u8 ((Int.tmod ((n : Int)) 16) + 1))) - (Int.toNat (Int.tmod ((n : Int)) 16))) (List.drop (Int.toNat (Int.tmod ((n : Int)) 16)) hxL) = [hx (n % 16)]) c.toNat c.toNat_lt
theorem hxC (c : UInt8) : (decide ((0:Int) ≤ (IntKind.wrap .u8 ((IntKind.wrap .u8 (Int.tdiv ((c.toNat : Int)) 16)) + 1))) && decide ((IntKind.wrap .u8 ((IntKind.wrap .u8 (Int.tdiv ((c.toNat : Int)) 16)) + 1)) ≤ (List.length hxL : Int))) = true :=
  (by decide +kernel : ∀ n : Nat, n < 256 → (decide ((0:Int) ≤ (IntKind.wrap .u8 ((IntKind.wrap .u8 (Int.tdiv ((n : Int)) 16)) + 1))) && decide ((IntKind.wrap .u8 ((IntKind.wrap .u8 (Int.tdiv ((n : Int)) 16)) + 1)) ≤ (List.length hxL : Int))) = true) c.toNat c.toNat_lt
theorem hxD (c : UInt8) : (decide ((0:Int) ≤ (IntKind.wrap .u8 (Int.tdiv ((c.toNat : Int)) 16))) && decide ((IntKind.wrap .u8 (Int.tdiv ((c.toNat : Int)) 16)) ≤ (Int.toNat (IntKind.wrap .u8 ((IntKind.wrap .u8 (Int.tdiv ((c.toNat : Int)) 16)) + 1)) : Int))) = true :=
  (by decide +kernel : ∀ n : Nat, n < 256 → (decide ((0:Int) ≤ (IntKind.wrap .u8 (Int.tdiv ((n : Int)) 16))) && decide ((IntKind.wrap .u8 (Int.tdiv ((n : Int)) 16)) ≤ (Int.toNat (IntKind.wrap .u8 ((IntKind.wrap .u8 (Int.tdiv ((n : Int)) 16)) + 1)) : Int))) = true) c.toNat c.toNat_lt
theorem hxE (c : UInt8) : (decide ((0:Int) ≤ (IntKind.wrap .u8 ((Int.tmod ((c.toNat : Int)) 16) + 1))) && decide ((IntKind.wrap .u8 ((Int.tmod ((c.toNat : Int)) 16) + 1)) ≤ (List.length hxL : Int))) = true :=
  (by decide +kernel : ∀ n : Nat, n < 256 → (decide ((0:Int) ≤ (IntKind.wrap .u8 ((Int.tmod ((n : Int)) 16) + 1))) && decide ((IntKind.wrap .u8 ((Int.tmod ((n : Int)) 16) + 1)) ≤ (List.length hxL : Int))) = true) c.toNat c.toNat_lt
theorem hxF (c : UInt8) : (decide ((0:Int) ≤ (Int.tmod ((c.toNat : Int)) 16)) && decide ((Int.tmod ((c.toNat : Int)) 16) ≤ (Int.toNat (IntKind.wrap .u8 ((Int.tmod ((c.toNat : Int)) 16) + 1)) : Int))) = true :=
  (by decide +kernel : ∀ n : Nat, n < 256 → (decide ((0:Int) ≤ (Int.tmod ((n : Int)) 16)) && decide ((Int.tmod ((n : Int)) 16) ≤ (Int.toNat (IntKind.wrap .u8 ((Int.tmod ((n : Int)) 16) + 1)) : Int))) = true) c.toNat c.toNat_lt
theorem fits_max {n : Nat} (h : n ≤ 70368744177664) : decide (n ≤ maxStr) = true := decide_eq_true (by unfold maxStr; omega)

theorem refEsc_goes : ∀ (rest pre out s : List UInt8) (i : Int), s = pre ++ rest → i = (pre.length : Int) → s.length ≤ 1099511627776 → out.length + 3 * rest.length ≤ 4398046511104 →
    Goes (Γ mx) Hesc 28 4 ⟨[(0, .s s), (3, .s hxL), (4, .s out), (5, .i .i64 i)], []⟩ (.s (out ++ escV rest), [])
  | [], pre, out, s, i, hs, hi, hl, hb => by
    refine Goes.step ⟨0, ?_⟩
    rw [r58_4a]
    subst hs hi
    have d1 : decide ((pre.length : Int) < (pre.length : Int)) = false := decide_eq_false (by omega)
    simp only [List.append_nil, d1, cond_false, escV]
  | c :: r, pre, out, s, i, hs, hi, hl, hb => by
    subst hs hi
    simp only [List.length_append, List.length_cons] at hl hb
    refine Goes.step ?_
    have d1 : decide ((pre.length : Int) < ((pre ++ c :: r).length : Int)) = true := decide_eq_true (by simp <;> omega)
    have hw : IntKind.wrap .i64 ((pre.length : Int) + 1) = (pre.length : Int) + 1 := wrap_id (by omega) (by omega)
    cases hp : plainB c with
    | true =>
      obtain ⟨k, hk⟩ := refEsc_goes r (pre ++ [c]) (out ++ [c]) (pre ++ c :: r) ((pre.length : Int) + 1) (by simp) (by simp) (by simp <;> omega) (by simp <;> omega)
      refine ⟨k, ?_⟩
      rw [r58_4a]
      have d2 : (decide ((0 : Int) ≤ (pre.length : Int) + 1) && decide ((pre.length : Int) + 1 ≤ ((pre ++ c :: r).length : Int))) = true := by simp <;> omega
      have d3 : (decide ((0 : Int) ≤ (pre.length : Int)) && decide ((pre.length : Int) ≤ (Int.toNat ((pre.length : Int) + 1) : Int))) = true := by simp <;> omega
      have d4 : decide (out.length + ([c] : List UInt8).length ≤ maxStr) = true := fits_max (by simp <;> omega)
      simp only [d1, cond_true, idx_mid, plainZ_B, hp, hw, d2, d3, cut_one, d4]
      rw [hk]
      simp [escV, encB, hp]
    | false =>
      obtain ⟨k, hk⟩ := refEsc_goes r (pre ++ [c]) (out ++ (([37] ++ [hx (c.toNat / 16)]) ++ [hx (c.toNat % 16)])) (pre ++ c :: r) ((pre.length : Int) + 1) (by simp) (by simp) (by simp <;> omega) (by simp <;> omega)
      refine ⟨k, ?_⟩
      rw [r58_4a]
      have d3 : decide (([37] : List UInt8).length + [hx (c.toNat / 16)].length ≤ maxStr) = true := fits_max (by simp)
      have d4 : decide ((([37] : List UInt8) ++ [hx (c.toNat / 16)]).length + [hx (c.toNat % 16)].length ≤ maxStr) = true := fits_max (by simp)
      have d5 : decide (out.length + ((([37] : List UInt8) ++ [hx (c.toNat / 16)]) ++ [hx (c.toNat % 16)]).length ≤ maxStr) = true := fits_max (by simp <;> omega)
      simp only [d1, cond_true, cond_false, idx_mid, plainZ_B, hp, hw, hxA, hxB, hxC, hxD, hxE, hxF, d3, d4, d5]
      rw [hk]
      simp [escV, encB, hp]
theorem refEsc_ret {s : List UInt8} (hl : s.length ≤ 1099511627776) : RetX (Γ mx) 28 [.s s] [] (.s (escV s)) [] := by
  refine ret_goes hP hZ esc_ok (by kernel_rfl) ?_
  obtain ⟨n, hn⟩ := refEsc_goes s [] [] s 0 rfl rfl hl (by simp <;> omega)
  exact ⟨n, by rw [r58]; exact hn⟩
end Go.Proofs.YtjbemleloffafaaGreatDoor.V

/- The document's Unescape; escaping and reading back are each other's. -/
namespace Go.Proofs.YtjbemleloffafaaGreatDoor.V
open Go
set_option maxRecDepth 100000
set_option linter.unusedVariables false
set_option linter.unusedSimpArgs false
variable {mx : Int}

theorem refUn_goes : ∀ (n : Nat) (rest pre out s : List UInt8) (i : Int) (_ : rest.length ≤ n) (hs : s = pre ++ rest) (hi : i = (pre.length : Int)) (hl : s.length ≤ 1099511627776) (hb : out.length + rest.length ≤ 4398046511104),
    Goes (Γ mx) Hesc 37 3 ⟨[(0, .s s), (4, .s out), (5, .i .i64 i)], []⟩ (unR out (unV rest), [])
  | n, [], pre, out, s, i, hn, hs, hi, hl, hb => by
    subst hs hi
    refine Goes.step ⟨0, ?_⟩
    rw [r49_3a]
    have d1 : decide ((pre.length : Int) < (pre.length : Int)) = false := decide_eq_false (by omega)
    simp only [List.append_nil, d1, cond_false, unV, unR]
  | 0, c :: r, pre, out, s, i, hn, hs, hi, hl, hb => by simp at hn
  | n + 1, c :: r, pre, out, s, i, hn, hs, hi, hl, hb => by
    subst hs hi
    simp only [List.length_append, List.length_cons] at hl hb hn
    refine Goes.step ?_
    have d1 : decide ((pre.length : Int) < ((pre ++ c :: r).length : Int)) = true := decide_eq_true (by simp <;> omega)
    have hw : IntKind.wrap .i64 ((pre.length : Int) + 1) = (pre.length : Int) + 1 := wrap_id (by omega) (by omega)
    have hw2 : IntKind.wrap .i64 ((pre.length : Int) + 2) = (pre.length : Int) + 2 := wrap_id (by omega) (by omega)
    have hw3 : IntKind.wrap .i64 ((pre.length : Int) + 2 + 1) = (pre.length : Int) + 2 + 1 := wrap_id (by omega) (by omega)
    cases hp : plainB c with
    | true =>
      obtain ⟨k, hk⟩ := refUn_goes n r (pre ++ [c]) (out ++ [c]) (pre ++ c :: r) ((pre.length : Int) + 1) (by omega) (by simp) (by simp) (by simp <;> omega) (by simp <;> omega)
      refine ⟨k, ?_⟩
      rw [r49_3a]
      have d2 : (decide ((0 : Int) ≤ (pre.length : Int) + 1) && decide ((pre.length : Int) + 1 ≤ ((pre ++ c :: r).length : Int))) = true := by simp <;> omega
      have d3 : (decide ((0 : Int) ≤ (pre.length : Int)) && decide ((pre.length : Int) ≤ (Int.toNat ((pre.length : Int) + 1) : Int))) = true := by simp <;> omega
      have d4 : decide (out.length + ([c] : List UInt8).length ≤ maxStr) = true := fits_max (by simp <;> omega)
      simp only [d1, cond_true, idx_mid, plainZ_B, hp, hw, d2, d3, cut_one, d4]
      rw [hk, unV_plain (ne37 hp) hp, unR_more]
    | false =>
      by_cases hc : c = 37
      · subst hc
        have n37 : (((37 : UInt8).toNat : Int) != 37) = false := rfl
        match r, hl, hb, hn with
        | [], hl, hb, hn =>
          refine ⟨0, ?_⟩
          rw [r49_3a]
          have d2 : decide ((pre.length : Int) + 2 ≥ ((pre ++ [37]).length : Int)) = true := decide_eq_true (by simp <;> omega)
          simp only [d1, cond_true, cond_false, idx_mid, plainZ_B, hp, n37, hw2, d2]
          rfl
        | [d], hl, hb, hn =>
          refine ⟨0, ?_⟩
          rw [r49_3a]
          have d2 : decide ((pre.length : Int) + 2 ≥ ((pre ++ [37, d]).length : Int)) = true := decide_eq_true (by simp <;> omega)
          simp only [d1, cond_true, cond_false, idx_mid, plainZ_B, hp, n37, hw2, d2]
          simp [unV, unR]
        | h :: l :: r', hl, hb, hn =>
          simp only [List.length_cons] at hl hb hn
          have d2 : decide ((pre.length : Int) + 2 ≥ ((pre ++ 37 :: h :: l :: r').length : Int)) = false := decide_eq_false (by simp <;> omega)
          have dz : ∀ x : UInt8, digitZ (x.toNat : Int) = digV x := fun _ => rfl
          rw [unV_37]
          by_cases h1 : digV h < 0
          · refine ⟨0, ?_⟩
            rw [r49_3a]
            simp only [d1, cond_true, cond_false, idx_mid, plainZ_B, hp, n37, hw, hw2, d2, idx_mid1, idx_mid2, dz, decide_eq_true h1, if_pos (Or.inl h1), unR]
          · by_cases h2 : digV l < 0
            · refine ⟨0, ?_⟩
              rw [r49_3a]
              simp only [d1, cond_true, cond_false, idx_mid, plainZ_B, hp, n37, hw, hw2, d2, idx_mid1, idx_mid2, dz, decide_eq_false h1, decide_eq_true h2, if_pos (Or.inr h2), unR]
            · rw [if_neg (by rintro (h | h) <;> contradiction)]
              cases hp2 : plainB (byteV h l) with
              | true =>
                refine ⟨0, ?_⟩
                rw [r49_3a]
                simp only [d1, cond_true, cond_false, idx_mid, plainZ_B, hp, n37, hw, hw2, d2, idx_mid1, idx_mid2, dz, decide_eq_false h1, decide_eq_false h2, val15 h1 h2, hp2, if_true, unR]
              | false =>
                obtain ⟨k, hk⟩ := refUn_goes n r' (pre ++ [37, h, l]) (out ++ [byteV h l]) (pre ++ 37 :: h :: l :: r') ((pre.length : Int) + 2 + 1) (by omega) (by simp) (by simp <;> omega) (by simp <;> omega) (by simp <;> omega)
                refine ⟨k, ?_⟩
                rw [r49_3a]
                have d4 : decide (out.length + ([byteV h l] : List UInt8).length ≤ maxStr) = true := fits_max (by simp <;> omega)
                simp only [d1, cond_true, cond_false, idx_mid, plainZ_B, hp, n37, hw, hw2, hw3, d2, idx_mid1, idx_mid2, dz, decide_eq_false h1, decide_eq_false h2, val15 h1 h2, hp2]
                rw [show [D.int .u8 ((byteV h l).toNat : Int)] = bytesD [byteV h l] from rfl, kBytes_bytesD]
                simp only [d4, cond_true]
                rw [hk]
                simp only [Bool.false_eq_true, if_false, unR_more]
      · refine ⟨0, ?_⟩
        rw [r49_3a]
        have n37 : ((c.toNat : Int) != 37) = true := by
          have := is37 c
          rw [decide_eq_false hc] at this
          simp only [bne, this, Bool.not_false]
        simp only [d1, cond_true, cond_false, idx_mid, plainZ_B, hp, n37, unV_bad hc hp, unR]
theorem refUn_ret {s : List UInt8} (hl : s.length ≤ 1099511627776) : RetX (Γ mx) 37 [.s s] [] (.tuple [.s (unS s), .i .i64 (unE s)]) [] := by
  refine ret_goes hP hZ esc_ok (by kernel_rfl) ?_
  obtain ⟨n, hn⟩ := refUn_goes _ s [] [] s 0 (Nat.le_refl _) rfl rfl hl (by simp <;> omega)
  exact ⟨n, by rw [r49, ← unR_eq]; exact hn⟩

/-! ### the pure laws -/
/-- of a byte that does not stand as it is: two digits, which are read as it -/
theorem enc_dec (c : UInt8) (h : plainB c = false) : ¬ digV (hx (c.toNat / 16)) < 0 ∧ ¬ digV (hx (c.toNat % 16)) < 0 ∧ byteV (hx (c.toNat / 16)) (hx (c.toNat % 16)) = c := by
  have := (by decide +kernel : ∀ n : Nat, n < 256 → ¬ digV (hx (n / 16)) < 0 ∧ ¬ digV (hx (n % 16)) < 0 ∧ byteV (hx (n / 16)) (hx (n % 16)) = UInt8.ofNat n) c.toNat c.toNat_lt
  rw [UInt8.ofNat_toNat] at this
  exact this
theorem un_esc : ∀ s : List UInt8, unV (escV s) = some s
  | [] => rfl
  | c :: r => by
    unfold escV encB
    cases hp : plainB c with
    | true =>
      simp only [if_true, List.cons_append, List.nil_append]
      rw [unV_plain (ne37 hp) hp, un_esc r]; rfl
    | false =>
      obtain ⟨h1, h2, h3⟩ := enc_dec c hp
      simp only [Bool.false_eq_true, if_false, List.cons_append, List.nil_append]
      rw [unV_37, if_neg (by rintro (h | h) <;> contradiction), h3, hp, un_esc r]; rfl
/-- two digits are those of the byte that they are read as -/
theorem dec_enc (h l : UInt8) (h1 : ¬ digV h < 0) (h2 : ¬ digV l < 0) : hx ((byteV h l).toNat / 16) = h ∧ hx ((byteV h l).toNat % 16) = l := by
  obtain ⟨a, ha, e1⟩ := dig_nat h h1
  obtain ⟨b, hb, e2⟩ := dig_nat l h2
  have hn := byte_nat ha hb e1 e2
  have hn : (byteV h l).toNat = a * 16 + b := by omega
  have key := (by decide +kernel : ∀ n : Nat, n < 256 → ¬ digitZ (n : Int) < 0 → hx (digitZ (n : Int)).toNat = UInt8.ofNat n)
  have k1 := key h.toNat h.toNat_lt h1
  have k2 := key l.toNat l.toNat_lt h2
  rw [UInt8.ofNat_toNat] at k1 k2
  have e1' : (digitZ (h.toNat : Int)).toNat = a := by have : digitZ (h.toNat : Int) = (a : Int) := e1; omega
  have e2' : (digitZ (l.toNat : Int)).toNat = b := by have : digitZ (l.toNat : Int) = (b : Int) := e2; omega
  rw [e1'] at k1
  rw [e2'] at k2
  rw [hn, show (a * 16 + b) / 16 = a by omega, show (a * 16 + b) % 16 = b by omega]
  exact ⟨k1, k2⟩
theorem esc_un : ∀ (n : Nat) (s c : List UInt8), s.length ≤ n → unV s = some c → escV c = s
  | n, [], c, _, h => by simp [unV] at h; subst h; rfl
  | 0, x :: r, c, hn, h => by simp at hn
  | n + 1, x :: r, c, hn, h => by
    simp only [List.length_cons] at hn
    by_cases hx37 : x = 37
    · subst hx37
      match r, hn, h with
      | [], hn, h => simp [unV] at h
      | [d], hn, h => simp [unV] at h
      | a :: b :: r', hn, h =>
        rw [unV_37] at h
        split at h
        · simp at h
        · rename_i hd
          have h1 : ¬ digV a < 0 := fun e => hd (.inl e)
          have h2 : ¬ digV b < 0 := fun e => hd (.inr e)
          split at h
          · simp at h
          · rename_i hpl
            obtain ⟨c', hc', rfl⟩ := Option.map_eq_some_iff.1 h
            have ih := esc_un n r' c' (by simp at hn; omega) hc'
            obtain ⟨g1, g2⟩ := dec_enc a b h1 h2
            unfold escV encB
            rw [if_neg hpl, g1, g2, ih]; rfl
    · cases hp : plainB x with
      | true =>
        rw [unV_plain hx37 hp] at h
        obtain ⟨c', hc', rfl⟩ := Option.map_eq_some_iff.1 h
        have ih := esc_un n r c' (by omega) hc'
        unfold escV encB
        rw [if_pos hp, ih]; rfl
      | false => rw [unV_bad hx37 hp] at h; simp at h
/-- what is escaped holds no blank, no = and no & -/
def okB (c : UInt8) : Bool := !(decide ((c.toNat : Int) ≤ 32)) && !((c.toNat : Int) == 61) && !((c.toNat : Int) == 38) && !(decide ((c.toNat : Int) > 126))
theorem enc_ok (c : UInt8) : (encB c).all okB = true := by
  have := (by decide +kernel : ∀ n : Nat, n < 256 → (encB (UInt8.ofNat n)).all okB = true) c.toNat c.toNat_lt
  rwa [UInt8.ofNat_toNat] at this
theorem esc_all : ∀ s : List UInt8, (escV s).all okB = true
  | [] => rfl
  | c :: r => by unfold escV; rw [List.all_append, enc_ok c, esc_all r]; rfl
theorem esc_len : ∀ s : List UInt8, (escV s).length ≤ 3 * s.length
  | [] => Nat.le_refl _
  | c :: r => by
    have := esc_len r
    unfold escV encB
    split <;> simp <;> omega
theorem un_len : ∀ (n : Nat) (s c : List UInt8), s.length ≤ n → unV s = some c → c.length ≤ s.length := fun n s c hn h => by
  have := esc_un n s c hn h
  rw [← this]
  clear this h
  induction c with
  | nil => simp
  | cons a r ih => unfold escV encB; split <;> simp <;> omega
end Go.Proofs.YtjbemleloffafaaGreatDoor.V

/- strings.Split at a blank, strings.Join, as the library's contracts have them. The layings are written by program. -/
namespace Go.Proofs
set_option maxRecDepth 100000
def Lg.lays146_ren : Go.Shelf.Ren := ⟨fun | 138 => 88 | 143 => 89 | 146 => 30 | 195 => 109 | 197 => 110 | 217 => 90 | 218 => 111 | 219 => 112 | 221 => 63 | 224 => 130 | 225 => 129 | 260 => 128 | 266 => 113 | 267 => 131 | 268 => 87 | 314 => 137 | n => n, fun | 0 => 0 | 3 => 3 | 4 => 4 | 5 => 5 | 9 => 9 | 21 => 21 | 31 => 63 | 46 => 94 | 51 => 146 | 105 => 135 | 119 => 123 | 138 => 125 | 139 => 126 | 146 => 156 | n => n, fun | 1 => 4 | 3 => 1 | 4 => 2 | n => n⟩
theorem Lg.lays146 : Go.Proofs.Lays.n146 Tryz.prog Lg.lays146_ren :=
  { mixed := by kernel_rfl, f138 := Tryz.func88.trans (congrArg some (by kernel_rfl)), f143 := Tryz.func89.trans (congrArg some (by kernel_rfl)), f146 := Tryz.func30.trans (congrArg some (by kernel_rfl)), f195 := Tryz.func109.trans (congrArg some (by kernel_rfl)), f197 := Tryz.func110.trans (congrArg some (by kernel_rfl)), f217 := Tryz.func90.trans (congrArg some (by kernel_rfl)), f218 := Tryz.func111.trans (congrArg some (by kernel_rfl)), f219 := Tryz.func112.trans (congrArg some (by kernel_rfl)), f221 := Tryz.func63.trans (congrArg some (by kernel_rfl)), f224 := Tryz.func130.trans (congrArg some (by kernel_rfl)), f225 := Tryz.func129.trans (congrArg some (by kernel_rfl)), f260 := Tryz.func128.trans (congrArg some (by kernel_rfl)), f266 := Tryz.func113.trans (congrArg some (by kernel_rfl)), f267 := Tryz.func131.trans (congrArg some (by kernel_rfl)), f268 := Tryz.func87.trans (congrArg some (by kernel_rfl)), f314 := Tryz.func137.trans (congrArg some (by kernel_rfl)), t0 := Tryz.underlying0, a0 := Tryz.isAgg0, z0 := Tryz.sizeOf0, v0 := Tryz.zeroValue0, t3 := Tryz.underlying3, a3 := Tryz.isAgg3, z3 := Tryz.sizeOf3, v3 := Tryz.zeroValue3, t4 := Tryz.underlying4, a4 := Tryz.isAgg4, z4 := Tryz.sizeOf4, v4 := Tryz.zeroValue4, t5 := Tryz.underlying5, a5 := Tryz.isAgg5, z5 := Tryz.sizeOf5, v5 := Tryz.zeroValue5, t9 := Tryz.underlying9, a9 := Tryz.isAgg9, z9 := Tryz.sizeOf9, v9 := Tryz.zeroValue9, t21 := Tryz.underlying21, a21 := Tryz.isAgg21, z21 := Tryz.sizeOf21, v21 := Tryz.zeroValue21, t31 := Tryz.underlying63, a31 := Tryz.isAgg63, z31 := Tryz.sizeOf63, v31 := Tryz.zeroValue63, t46 := Tryz.underlying94, a46 := Tryz.isAgg94, z46 := Tryz.sizeOf94, v46 := Tryz.zeroValue94, t51 := Tryz.underlying146, a51 := Tryz.isAgg146, z51 := Tryz.sizeOf146, v51 := Tryz.zeroValue146, t105 := Tryz.underlying135, a105 := Tryz.isAgg135, z105 := Tryz.sizeOf135, v105 := Tryz.zeroValue135, t119 := Tryz.underlying123, a119 := Tryz.isAgg123, z119 := Tryz.sizeOf123, t138 := Tryz.underlying125, a138 := Tryz.isAgg125, z138 := Tryz.sizeOf125, v138 := Tryz.zeroValue125, t139 := Tryz.underlying126, a139 := Tryz.isAgg126, z139 := Tryz.sizeOf126, v139 := Tryz.zeroValue126, t146 := Tryz.underlying156, a146 := Tryz.isAgg156, z146 := Tryz.sizeOf156, v146 := Tryz.zeroValue156, g1 := by kernel_rfl, g3 := by kernel_rfl, g4 := by kernel_rfl }
def Lg.lays156_ren : Go.Shelf.Ren := ⟨fun | 156 => 26 | 165 => 60 | 166 => 61 | 169 => 58 | 240 => 83 | 241 => 85 | 276 => 103 | 277 => 108 | n => n, fun | 0 => 0 | 3 => 3 | 4 => 4 | 9 => 9 | 20 => 20 | 31 => 63 | 37 => 87 | 70 => 86 | 72 => 89 | 75 => 92 | 76 => 97 | 127 => 111 | 164 => 127 | 80 => 95 | n => n, fun | n => n⟩
theorem Lg.lays156 : Go.Proofs.Lays.n156 Tryz.prog Lg.lays156_ren :=
  { mixed := by kernel_rfl, f156 := Tryz.func26.trans (congrArg some (by kernel_rfl)), f165 := Tryz.func60.trans (congrArg some (by kernel_rfl)), f166 := Tryz.func61.trans (congrArg some (by kernel_rfl)), f169 := Tryz.func58.trans (congrArg some (by kernel_rfl)), f240 := Tryz.func83.trans (congrArg some (by kernel_rfl)), f241 := Tryz.func85.trans (congrArg some (by kernel_rfl)), f276 := Tryz.func103.trans (congrArg some (by kernel_rfl)), f277 := Tryz.func108.trans (congrArg some (by kernel_rfl)), t0 := Tryz.underlying0, a0 := Tryz.isAgg0, z0 := Tryz.sizeOf0, v0 := Tryz.zeroValue0, t3 := Tryz.underlying3, a3 := Tryz.isAgg3, z3 := Tryz.sizeOf3, v3 := Tryz.zeroValue3, t4 := Tryz.underlying4, a4 := Tryz.isAgg4, z4 := Tryz.sizeOf4, v4 := Tryz.zeroValue4, t9 := Tryz.underlying9, a9 := Tryz.isAgg9, z9 := Tryz.sizeOf9, v9 := Tryz.zeroValue9, t20 := Tryz.underlying20, a20 := Tryz.isAgg20, z20 := Tryz.sizeOf20, v20 := Tryz.zeroValue20, t31 := Tryz.underlying63, a31 := Tryz.isAgg63, z31 := Tryz.sizeOf63, v31 := Tryz.zeroValue63, t37 := Tryz.underlying87, a37 := Tryz.isAgg87, z37 := Tryz.sizeOf87, v37 := Tryz.zeroValue87, t70 := Tryz.underlying86, a70 := Tryz.isAgg86, z70 := Tryz.sizeOf86, v70 := Tryz.zeroValue86, t72 := Tryz.underlying89, a72 := Tryz.isAgg89, z72 := Tryz.sizeOf89, v72 := Tryz.zeroValue89, t75 := Tryz.underlying92, a75 := Tryz.isAgg92, z75 := Tryz.sizeOf92, v75 := Tryz.zeroValue92, t76 := Tryz.underlying97, a76 := Tryz.isAgg97, z76 := Tryz.sizeOf97, v76 := Tryz.zeroValue97, t127 := Tryz.underlying111, a127 := Tryz.isAgg111, z127 := Tryz.sizeOf111, v127 := Tryz.zeroValue111, t164 := Tryz.underlying127, a164 := Tryz.isAgg127, z164 := Tryz.sizeOf127, v164 := Tryz.zeroValue127 }
theorem Lg.extra : Builder.Extra Tryz.prog Lg.lays156_ren := { sizeBuilder := by kernel_rfl, liesBuilder := by kernel_rfl, t5 := Tryz.underlying5, a5 := Tryz.isAgg5, z5 := Tryz.sizeOf5, v5 := Tryz.zeroValue5, infoByte := by kernel_rfl, cellsByte := by kernel_rfl, sizeByte := by kernel_rfl, neB5 := by decide }
end Go.Proofs
namespace Go.Proofs.YtjbemleloffafaaGreatDoor.V
open Go Go.RowKit
set_option maxRecDepth 100000
set_option linter.unusedVariables false
variable {mx : Int}
theorem max_cell {w : World} {S : Addr → Prop} (h : GlobOK (Γ mx) w S) : w.cell? ⟨4, 0, none⟩ = some (.int .i64 mx) := by
  obtain ⟨vs, h1, h2, _⟩ := h.data 4 3 (.int .i64 mx) rfl
  exact glob_int h1 h2
def s32 (l : List UInt8) : Bool := decide (l.length < 4294967281)
theorem ba_eq {u : ByteArray} {l : List UInt8} (h : u.data.toList = l) : u = ⟨l.toArray⟩ := by subst h; simp
theorem sep_ne (c : UInt8) : 1 ≤ (⟨#[c]⟩ : ByteArray).size := Nat.le_refl 1
/-- what lies between signs -/
def splitC (c : UInt8) (s : List UInt8) : List D := (Lib.split s [c]).map D.str
theorem split_ret (c : UInt8) (s : List UInt8) (h : s32 s = true) : RetX (Γ mx) 30 [.s s, .s [c]] [] (.sl 9 .ex (splitC c s)) [] := by
  refine ret_shelfN (by kernel_rfl) fun w S vals hS hG ha => ?_
  simp only [RepAs, RepA] at ha
  obtain ⟨v, _, rfl, ⟨s, rfl, rfl⟩, v', _, rfl, ⟨u, hu, rfl⟩, rfl⟩ := ha
  obtain rfl := ba_eq hu
  refine (Any.strings_Split Lg.lays146 (by kernel_rfl) s ⟨#[c]⟩ mx w (by simpa [s32] using h) (max_cell hG) (sep_ne c)).mono fun e w' ⟨he, hw⟩ => ?_
  have hl := Lib.splitB_all ⟨#[c]⟩ (sep_ne c) 0 _ s rfl
  have hd := Lib.splitB_data ⟨#[c]⟩ 0 (Lib.countB s ⟨#[c]⟩) s
  have hx : splitC c s.data.toList = (Lib.splitB ⟨#[c]⟩ 0 (Lib.countB s ⟨#[c]⟩) s).map fun b => D.str b.data.toList := by
    have : Lib.split s.data.toList [c] = (Lib.splitB ⟨#[c]⟩ 0 (Lib.countB s ⟨#[c]⟩) s).map (·.data.toList) := hd.symm
    unfold splitC
    rw [this, List.map_map]
    rfl
  subst hw
  refine ⟨_, he, (Below.refl _ w).alloc (Nat.le_refl _) _, fun a => S a ∨ a.block = w.heap.size, fun _ h => .inl h, fun a h => ?_, ?_⟩
  · rcases h with h | h
    · exact .inl h
    · exact .inr ⟨Nat.le_of_eq h.symm, by rw [h, und_len]; exact Nat.lt_succ_self _⟩
  · rw [hx]
    simp only [RepA]
    refine ⟨some ⟨w.heap.size, 0, none⟩, Lib.countB s ⟨#[c]⟩ + 1, by rw [List.length_map, hl], ⟨rfl, by rw [List.length_map, hl]⟩, .inr ⟨_, _, rfl, row_strs (by kernel_rfl) (by kernel_rfl) _ _ _ fun j v hj => ⟨?_, .inr rfl⟩⟩⟩
    rw [Nat.zero_add, World.cell?_alloc_at _ _ _ _ rfl]
    simpa using hj
/-- the texts of a row of texts -/
def txt : D → List UInt8
  | .str l => l
  | _ => []
def joinV (l : List D) (sep : List UInt8) : List UInt8 := Lib.join (l.map txt) sep
def isStr : D → Bool
  | .str _ => true
  | _ => false
def joinC (l : List D) (sep : List UInt8) : Bool := l.all isStr && decide (l.length ≤ 1099511627776) && decide ((joinV l sep).length ≤ 140737488355328)
theorem row_texts {P : Program} {w : World} {S : Addr → Prop} {e : TypeId} (h1 : P.cellsOf e = 1) : ∀ (l : List D) (b o : Nat), l.all isStr = true → RepRow P w S l e b o →
    ∃ xs : List ByteArray, xs.length = l.length ∧ xs.map (·.data.toList) = l.map txt ∧ ∀ (j : Nat) x, xs[j]? = some x → w.cell? ⟨b, o + j, none⟩ = some (.string x) ∧ S ⟨b, o + j, none⟩
  | [], b, o, _, _ => ⟨[], rfl, rfl, fun j x h => by simp at h⟩
  | d :: l, b, o, ha, h => by
    simp only [RepRow] at h
    obtain ⟨vs, hc, hr, h⟩ := h
    have ha : isStr d = true ∧ l.all isStr = true := by simpa using ha
    obtain ⟨xs, g1, g2, g3⟩ := row_texts h1 l b _ ha.2 h
    cases d with
    | str q =>
      simp only [RepT] at hr
      obtain ⟨_, s, hs, rfl⟩ := hr
      refine ⟨s :: xs, by simp [g1], by simp [g2, hs, txt], fun j x hj => ?_⟩
      cases j with
      | zero => cases hj; exact hc 0 _ rfl
      | succ j =>
        have := g3 j x (by simpa using hj)
        rw [h1, show o + 1 + j = o + (j + 1) by omega] at this
        exact this
    | int _ _ => exact absurd ha.1 (by simp [isStr])
    | bool _ => exact absurd ha.1 (by simp [isStr])
    | slice _ _ => exact absurd ha.1 (by simp [isStr])
    | agg _ => exact absurd ha.1 (by simp [isStr])
theorem capC {c : Cp} {a : Option Addr} {n cap : Nat} (h : CapOK c a n cap) : n ≤ cap := by
  cases c <;> simp only [CapOK] at h <;> omega
theorem join_ret (c : Cp) (l : List D) (sep : List UInt8) (h : joinC l sep = true) : RetX (Γ mx) 26 [.sl 9 c l, .s sep] [] (.s (joinV l sep)) [] := by
  refine ret_shelfN (by kernel_rfl) fun w S vals hS hG ha => ?_
  simp only [RepAs, RepA] at ha
  obtain ⟨v, _, rfl, ⟨a, cap, rfl, hcap, hrow⟩, v', _, rfl, ⟨u, rfl, rfl⟩, rfl⟩ := ha
  simp only [joinC, Bool.and_eq_true, decide_eq_true_eq] at h
  obtain ⟨⟨h1, h2⟩, h3⟩ := h
  have hcap := capC hcap
  rcases hrow with rfl | ⟨b, o, rfl, hrow⟩
  · refine (Any.strings_Join_none Lg.lays156 Lg.extra a cap u w).mono fun e w' ⟨he, hw⟩ => ⟨_, he, by rw [hw]; exact Below.refl _ _, S, fun _ h => h, fun _ h => .inl h, ?_⟩
    simp only [RepA]
    exact ⟨_, list_eta _, rfl⟩
  · obtain ⟨xs, g1, g2, g3⟩ := row_texts (P := (Γ mx).P) (by kernel_rfl) l b o h1 hrow
    cases l with
    | nil =>
      refine (Any.strings_Join_none Lg.lays156 Lg.extra _ cap u w).mono fun e w' ⟨he, hw⟩ => ⟨_, he, by rw [hw]; exact Below.refl _ _, S, fun _ h => h, fun _ h => .inl h, ?_⟩
      simp only [RepA]
      exact ⟨_, list_eta _, rfl⟩
    | cons d r =>
      have hb : b < w.heap.size := by
        cases xs with
        | nil => simp at g1
        | cons x xs => exact hS _ (g3 0 x rfl).2
      have e : joinV (d :: r) u.data.toList = Lib.join (xs.map (·.data.toList)) u.data.toList := by unfold joinV; rw [g2]
      have hj := Any.strings_Join Lg.lays156 Lg.extra b o cap xs u w (fun j x hj => (g3 j x hj).1) hb (by omega) (by omega) (by rw [← e]; exact h3)
      rw [g1] at hj
      refine hj.mono fun e' w' ⟨he, hw⟩ => ⟨_, he, hw, S, fun _ h => h, fun _ h => .inl h, ?_⟩
      simp only [RepA]
      exact ⟨_, by rw [list_eta, e], rfl⟩
end Go.Proofs.YtjbemleloffafaaGreatDoor.V

/- Grants as text: what the functions come to; splitting at blanks; a grant's text read again. No program in sight. -/
namespace Go.Proofs.YtjbemleloffafaaGreatDoor.V
open Go
set_option maxRecDepth 100000
set_option linter.unusedVariables false
set_option linter.unusedSimpArgs false
def wordV (p : List UInt8) : List UInt8 := bif p == [] then [37] else escV p
def uwS (s : List UInt8) : List UInt8 := bif s == [37] then [] else unS s
def uwB (s : List UInt8) : Bool := s == [37] || (unE s == 0 && !(unS s == []))
def denyW : List UInt8 := [100, 101, 110, 121]
def allowW : List UInt8 := [97, 108, 108, 111, 119]
def firstW (b : Bool) : List UInt8 := bif b then denyW else allowW
/-! ### splitting -/
def consHd (c : UInt8) : List (List UInt8) → List (List UInt8)
  | [] => [[c]]
  | p :: r => (c :: p) :: r
def spl (k : UInt8) : List UInt8 → List (List UInt8)
  | [] => [[]]
  | c :: r => if c = k then [] :: spl k r else consHd c (spl k r)
theorem splitK_cons {k : UInt8} {c : UInt8} (hc : c ≠ k) (r : List UInt8) (n : Nat) : Lib.splitK [k] 0 n (c :: r) = consHd c (Lib.splitK [k] 0 n r) := by
  cases n with
  | zero => rfl
  | succ n =>
    have hp : List.isPrefixOf [k] (c :: r) = false := by simp [List.isPrefixOf, Ne.symm hc]
    have hge := Lib.index_ge r [k]
    simp only [Lib.splitK]
    rw [Lib.index, hp]
    simp only [Bool.false_eq_true, if_false]
    by_cases h : Lib.index r [k] = -1
    · rw [h]; rfl
    · have h2 : (Lib.index r [k] == -1) = false := by simpa using h
      have h3 : (Lib.index r [k] + 1 == -1) = false := by simp <;> omega
      rw [h2]
      simp only [Bool.false_eq_true, if_false]
      rw [h3]
      simp only [Bool.false_eq_true, if_false, Nat.add_zero]
      rw [show (Lib.index r [k] + 1).toNat = (Lib.index r [k]).toNat + 1 by omega, List.take_succ_cons, show (Lib.index r [k]).toNat + 1 + [(k : UInt8)].length = ((Lib.index r [k]).toNat + [(k : UInt8)].length) + 1 by omega, List.drop_succ_cons]
      rfl
theorem split_spl (k : UInt8) : ∀ s : List UInt8, Lib.split s [k] = spl k s
  | [] => by rfl
  | c :: r => by
    have ih := split_spl k r
    unfold Lib.split at ih ⊢
    rw [Lib.count_one] at ih ⊢
    by_cases hc : c = k
    · subst hc
      have hp : List.isPrefixOf [c] (c :: r) = true := by simp [List.isPrefixOf]
      rw [List.count_cons_self, Lib.splitK, Lib.index, if_pos hp]
      simp only [spl, if_true]
      rw [← ih]
      rfl
    · rw [List.count_cons_of_ne (by simpa using hc), splitK_cons hc, ih]
      simp only [spl, if_neg hc]
theorem spl_ne (k : UInt8) (s : List UInt8) : spl k s ≠ [] := by
  cases s with
  | nil => simp [spl]
  | cons c r =>
    rw [spl]
    split
    · simp
    · cases spl k r <;> simp [consHd]
theorem spl_app (k : UInt8) : ∀ (x r : List UInt8), (∀ c ∈ x, c ≠ k) → spl k (x ++ k :: r) = x :: spl k r
  | [], r, _ => by simp [spl]
  | c :: x, r, h => by
    rw [List.cons_append, spl, if_neg (h c (by simp)), spl_app k x r fun d hd => h d (by simp [hd])]; rfl
theorem spl_one (k : UInt8) : ∀ (x : List UInt8), (∀ c ∈ x, c ≠ k) → spl k x = [x]
  | [], _ => rfl
  | c :: x, h => by rw [spl, if_neg (h c (by simp)), spl_one k x fun d hd => h d (by simp [hd])]; rfl
theorem join_cons (x : List UInt8) {l : List (List UInt8)} (h : l ≠ []) (sep : List UInt8) : Lib.join (x :: l) sep = x ++ sep ++ Lib.join l sep := by
  cases l with
  | nil => exact absurd rfl h
  | cons y r => simp [Lib.join, List.intercalate]
theorem join_spl (k : UInt8) : ∀ s : List UInt8, Lib.join (spl k s) [k] = s
  | [] => by simp [spl, Lib.join_one]
  | c :: r => by
    rw [spl]
    have ih := join_spl k r
    split
    · rename_i h
      rw [join_cons [] (spl_ne k r), ih, h]; rfl
    · have hn := spl_ne k r
      cases hs : spl k r with
      | nil => exact absurd hs hn
      | cons p q =>
        rw [hs] at ih
        cases q with
        | nil => simp only [consHd, Lib.join_one] at ih ⊢; rw [ih]
        | cons y z => rw [consHd, join_cons (c :: p) (by simp)]; rw [join_cons p (by simp)] at ih; rw [List.cons_append, List.cons_append, ih]
theorem spl_len (k : UInt8) : ∀ (s : List UInt8), ∀ p ∈ spl k s, p.length ≤ s.length
  | [], p, h => by simp [spl] at h; subst h; simp
  | c :: r, p, h => by
    rw [spl] at h
    have ih := spl_len k r
    split at h
    · rcases List.mem_cons.1 h with rfl | h
      · simp
      · have := ih p h; simp; omega
    · cases hs : spl k r with
      | nil => exact absurd hs (spl_ne k r)
      | cons y z =>
        rw [hs] at h ih
        rw [consHd] at h
        rcases List.mem_cons.1 h with rfl | h
        · have := ih y (by simp); simp; omega
        · have := ih p (List.mem_cons_of_mem _ h); simp; omega
theorem spl_num (k : UInt8) : ∀ (s : List UInt8), (spl k s).length ≤ s.length + 1
  | [] => Nat.le_refl _
  | c :: r => by
    rw [spl]
    have ih := spl_num k r
    split
    · simp; omega
    · cases hs : spl k r with
      | nil => simp [consHd]
      | cons y z => rw [hs] at ih; rw [consHd]; simp at ih ⊢; omega
/-! ### a word -/
theorem okB32 {c : UInt8} (h : okB c = true) : c ≠ 32 := fun e => by subst e; revert h; decide
theorem word_ok (p : List UInt8) : ∀ c ∈ wordV p, c ≠ 32 := by
  unfold wordV
  cases h : (p == []) with
  | true => simp
  | false => exact fun c hc => okB32 (List.all_eq_true.1 (esc_all p) c hc)
theorem encB_ne (c : UInt8) : encB c ≠ [] := by unfold encB; split <;> simp
theorem esc_ne {p : List UInt8} (h : p ≠ []) : escV p ≠ [] := by
  cases p with
  | nil => exact absurd rfl h
  | cons c r => rw [escV]; intro e; exact encB_ne c (List.append_eq_nil_iff.1 e).1
theorem esc_ne37 (p : List UInt8) : escV p ≠ [37] := by
  cases p with
  | nil => simp [escV]
  | cons c r =>
    rw [escV, encB]
    split
    · rename_i h
      intro e
      simp only [List.cons_append, List.nil_append, List.cons.injEq] at e
      exact ne37 h e.1
    · simp
theorem uw_word (p : List UInt8) : uwB (wordV p) = true ∧ uwS (wordV p) = p := by
  unfold wordV
  cases h : (p == []) with
  | true => exact ⟨rfl, (eq_of_beq h).symm⟩
  | false =>
    have h : p ≠ [] := fun e => by rw [e] at h; simp at h
    have h1 : (escV p == [37]) = false := beq_eq_false_iff_ne.2 (esc_ne37 p)
    unfold uwB uwS
    rw [cond_false, h1]
    have e1 : unE (escV p) = 0 := by unfold unE; rw [un_esc]; rfl
    have e2 : unS (escV p) = p := by unfold unS; rw [un_esc]; rfl
    rw [e1, e2, beq_eq_false_iff_ne.2 h]
    exact ⟨rfl, rfl⟩
theorem word_uw {w : List UInt8} (h : uwB w = true) : wordV (uwS w) = w := by
  unfold uwB at h
  unfold uwS
  cases h1 : (w == [37]) with
  | true => rw [eq_of_beq h1]; rfl
  | false =>
    rw [h1] at h
    simp only [Bool.false_or, Bool.and_eq_true, Bool.not_eq_true'] at h
    obtain ⟨h2, h3⟩ := h
    rw [cond_false]
    unfold wordV
    rw [h3, cond_false]
    unfold unE at h2
    cases hu : unV w with
    | none => rw [hu] at h2; exact absurd h2 (by decide)
    | some c =>
      have : unS w = c := by unfold unS; rw [hu]; rfl
      rw [this]
      exact esc_un _ w c (Nat.le_refl _) hu
theorem first_ok (b : Bool) : ∀ c ∈ firstW b, c ≠ 32 := by cases b <;> decide
/-! ### a grant's text -/
def gD (q : Bool × List UInt8 × List UInt8 × List UInt8) : D := .agg [.bool q.1, .str q.2.1, .str q.2.2.1, .str q.2.2.2]
def textS : D → List UInt8
  | .agg [.bool b, .str w, .str t, .str k] => bif grB [.agg [.bool b, .str w, .str t, .str k]] then joinV [.str (firstW b), .str (wordV w), .str (wordV t), .str (wordV k)] [32] else []
  | _ => []
def textE (g : D) : Int := bif grB [g] then 0 else 2
def paL (s : List UInt8) : Option (Bool × List UInt8 × List UInt8 × List UInt8) := match spl 32 s with
  | [a, b, c, d] => bif (a == allowW || a == denyW) && (uwB b && (uwB c && uwB d)) then some (a == denyW, uwS b, uwS c, uwS d) else none
  | _ => none
def paE (s : List UInt8) : Int := match paL s with
  | none => 5
  | some q => bif grB [gD q] then 0 else 2
def paQ (s : List UInt8) : Bool × List UInt8 × List UInt8 × List UInt8 := match paL s with
  | none => (false, [], [], [])
  | some q => bif grB [gD q] then q else (false, [], [], [])
def pa0 (s : List UInt8) : Bool := (paQ s).1
def pa1 (s : List UInt8) : List UInt8 := (paQ s).2.1
def pa2 (s : List UInt8) : List UInt8 := (paQ s).2.2.1
def pa3 (s : List UInt8) : List UInt8 := (paQ s).2.2.2
theorem join4 (a b c d : List UInt8) : joinV [.str a, .str b, .str c, .str d] [32] = a ++ 32 :: (b ++ 32 :: (c ++ 32 :: d)) := by
  simp [joinV, txt, Lib.join, List.intercalate]
theorem gD_eq (s : List UInt8) : D.agg [.bool (pa0 s), .str (pa1 s), .str (pa2 s), .str (pa3 s)] = gD (paQ s) := rfl
theorem text_gD (q : Bool × List UInt8 × List UInt8 × List UInt8) : textS (gD q) = bif grB [gD q] then firstW q.1 ++ 32 :: (wordV q.2.1 ++ 32 :: (wordV q.2.2.1 ++ 32 :: wordV q.2.2.2)) else [] := by
  obtain ⟨b, w, t, k⟩ := q
  show (bif _ then _ else _) = _
  rw [join4]; rfl
theorem first_in (b : Bool) : (firstW b == allowW || firstW b == denyW) = true ∧ (firstW b == denyW) = b := by cases b <;> decide
theorem pa_text {q : Bool × List UInt8 × List UInt8 × List UInt8} (h : grB [gD q] = true) : paL (textS (gD q)) = some q := by
  obtain ⟨b, w, t, k⟩ := q
  rw [text_gD, h, cond_true]
  unfold paL
  rw [spl_app 32 _ _ (first_ok b), spl_app 32 _ _ (word_ok w), spl_app 32 _ _ (word_ok t), spl_one 32 _ (word_ok k)]
  show (bif (firstW b == allowW || firstW b == denyW) && (uwB (wordV w) && (uwB (wordV t) && uwB (wordV k))) then some (firstW b == denyW, uwS (wordV w), uwS (wordV t), uwS (wordV k)) else none) = _
  rw [(first_in b).1, (first_in b).2, (uw_word w).1, (uw_word w).2, (uw_word t).1, (uw_word t).2, (uw_word k).1, (uw_word k).2]
  rfl
theorem first_of {a : List UInt8} (h : (a == allowW || a == denyW) = true) : firstW (a == denyW) = a := by
  cases hd : (a == denyW) with
  | true => exact (eq_of_beq hd).symm
  | false => rw [hd, Bool.or_false] at h; exact (eq_of_beq h).symm
theorem text_pa {s : List UInt8} {q : Bool × List UInt8 × List UInt8 × List UInt8} (h : paL s = some q) (hg : grB [gD q] = true) : textS (gD q) = s := by
  rw [text_gD, hg, cond_true]
  have hj := join_spl 32 s
  unfold paL at h
  split at h
  · rename_i a b c d hs
    obtain ⟨hc, h⟩ := cond_some h
    simp only [Bool.and_eq_true] at hc
    obtain ⟨h1, h2, h3, h4⟩ := hc
    cases h
    rw [hs] at hj
    simp only [first_of h1, word_uw h2, word_uw h3, word_uw h4]
    rw [← hj]
    simp [Lib.join, List.intercalate]
  · exact absurd h (by simp)
end Go.Proofs.YtjbemleloffafaaGreatDoor.V

/- Tags as text: what the functions come to, and what the laws say of it. No program in sight. -/
namespace Go.Proofs.YtjbemleloffafaaGreatDoor.V
open Go
set_option maxRecDepth 100000
set_option linter.unusedVariables false
set_option linter.unusedSimpArgs false
/-! ### a text at a sign -/
def cutE : List UInt8 → Option (List UInt8 × List UInt8)
  | [] => none
  | c :: r => if c = 61 then some ([], r) else (cutE r).map fun q => (c :: q.1, q.2)
theorem cutE_some : ∀ {p a b : List UInt8}, cutE p = some (a, b) → p = a ++ 61 :: b ∧ (61 : UInt8) ∉ a
  | [], a, b, h => by simp [cutE] at h
  | c :: r, a, b, h => by
    rw [cutE] at h
    by_cases hc : c = 61
    · rw [if_pos hc] at h
      cases h
      exact ⟨by rw [hc]; rfl, by simp⟩
    · rw [if_neg hc] at h
      cases hr : cutE r with
      | none => rw [hr] at h; simp at h
      | some q =>
        obtain ⟨a', b'⟩ := q
        rw [hr] at h
        simp only [Option.map_some, Option.some.injEq, Prod.mk.injEq] at h
        obtain ⟨rfl, rfl⟩ := h
        obtain ⟨h1, h2⟩ := cutE_some hr
        exact ⟨by rw [h1]; rfl, by simp [h2, Ne.symm hc]⟩
theorem cutE_app : ∀ {a : List UInt8} (b : List UInt8), (61 : UInt8) ∉ a → cutE (a ++ 61 :: b) = some (a, b)
  | [], b, _ => by rw [List.nil_append, cutE, if_pos rfl]
  | c :: a, b, h => by
    have h : ¬ (61 = c) ∧ (61 : UInt8) ∉ a := by simpa using h
    rw [List.cons_append, cutE, if_neg (Ne.symm h.1), cutE_app b h.2]; rfl
theorem cutE_none : ∀ {p : List UInt8}, cutE p = none → (61 : UInt8) ∉ p
  | [], _ => by simp
  | c :: r, h => by
    rw [cutE] at h
    by_cases hc : c = 61
    · rw [if_pos hc] at h; exact absurd h (by simp)
    · rw [if_neg hc] at h
      have := cutE_none (p := r) (by simpa using h)
      simp [this, Ne.symm hc]
theorem cut_cutE : ∀ p : List UInt8, Lib.cut p [61] = match cutE p with | some (a, b) => (a, b, true) | none => (p, [], false)
  | [] => rfl
  | c :: r => by
    have ih := cut_cutE r
    have hge := Lib.index_ge r [61]
    rw [cutE]
    by_cases hc : c = 61
    · subst hc
      have : Lib.index (61 :: r) [61] = 0 := by rw [Lib.index]; simp [List.isPrefixOf]
      unfold Lib.cut
      rw [this, if_pos (Int.le_refl 0), if_pos rfl]
      simp
    · rw [if_neg hc]
      have hp : List.isPrefixOf [61] (c :: r) = false := by simp [List.isPrefixOf, Ne.symm hc]
      by_cases hi : Lib.index r [61] = -1
      · have h1 : Lib.index (c :: r) [61] = -1 := by rw [Lib.index, hp, hi]; rfl
        unfold Lib.cut at ih ⊢
        rw [hi, if_neg (by omega)] at ih
        rw [h1, if_neg (by omega)]
        cases hr : cutE r with
        | none => rfl
        | some q => obtain ⟨a, b⟩ := q; rw [hr] at ih; simp at ih
      · have h1 : Lib.index (c :: r) [61] = Lib.index r [61] + 1 := by
          rw [Lib.index, hp]
          simp only [Bool.false_eq_true, if_false]
          have h2 : (Lib.index r [61] == -1) = false := by simpa using hi
          rw [h2]; simp
        unfold Lib.cut at ih ⊢
        rw [if_pos (by omega)] at ih
        rw [h1, if_pos (by omega)]
        cases hr : cutE r with
        | none => rw [hr] at ih; simp at ih
        | some q =>
          obtain ⟨a, b⟩ := q
          rw [hr] at ih
          simp only [Prod.mk.injEq, and_true] at ih
          rw [show (Lib.index r [61] + 1).toNat = (Lib.index r [61]).toNat + 1 by omega, List.take_succ_cons, ih.1, show (Lib.index r [61]).toNat + 1 + [(61 : UInt8)].length = ((Lib.index r [61]).toNat + [(61 : UInt8)].length) + 1 by omega, List.drop_succ_cons, ih.2]
          rfl
/-! ### a part -/
def ptT (t : D) : List UInt8 := escV (nmT t) ++ 61 :: escV (vlT t)
def prP (p : List UInt8) : Option D := match cutE p with
  | none => none
  | some (a, b) => bif unE a == 0 && unE b == 0 then some (mkT (unS a) (unS b)) else none
def prL : List (List UInt8) → Option (List D)
  | [] => some []
  | p :: r => match prP p with
    | none => none
    | some t => (prL r).map (t :: ·)
def joinT (l : List D) : List UInt8 := Lib.join (l.map ptT) [38]
def txS (l : List D) : List UInt8 := bif tsB l then joinT l else []
def txE (l : List D) : Int := bif tsB l then 0 else 2
def psE (s : List UInt8) : Int := bif s == [] then 0 else match prL (spl 38 s) with
  | none => 5
  | some l => bif tsB l then 0 else 2
def psL (s : List UInt8) : List D := bif s == [] then [] else match prL (spl 38 s) with
  | none => []
  | some l => bif tsB l then l else []
theorem okB61 {c : UInt8} (h : okB c = true) : c ≠ 61 := fun e => by subst e; revert h; decide
theorem okB38 {c : UInt8} (h : okB c = true) : c ≠ 38 := fun e => by subst e; revert h; decide
theorem esc_no61 (s : List UInt8) : (61 : UInt8) ∉ escV s := fun h => okB61 (List.all_eq_true.1 (esc_all s) _ h) rfl
theorem esc_no38 (s : List UInt8) : ∀ c ∈ escV s, c ≠ 38 := fun c hc => okB38 (List.all_eq_true.1 (esc_all s) c hc)
theorem un_escE (s : List UInt8) : unE (escV s) = 0 ∧ unS (escV s) = s := by unfold unE unS; rw [un_esc]; exact ⟨rfl, rfl⟩
theorem esc_unS {s : List UInt8} (h : unE s = 0) : escV (unS s) = s := by
  unfold unE at h
  cases hu : unV s with
  | none => rw [hu] at h; exact absurd h (by decide)
  | some c => unfold unS; rw [hu]; exact esc_un _ s c (Nat.le_refl _) hu
theorem un_no61 {s : List UInt8} (h : unE s = 0) : (61 : UInt8) ∉ s := by rw [← esc_unS h]; exact esc_no61 _
theorem pt_no38 (t : D) : ∀ c ∈ ptT t, c ≠ 38 := by
  intro c hc
  unfold ptT at hc
  rw [List.mem_append, List.mem_cons] at hc
  rcases hc with hc | rfl | hc
  · exact esc_no38 _ c hc
  · decide
  · exact esc_no38 _ c hc
theorem pr_pt {t : D} (h : isT t = true) : prP (ptT t) = some t := by
  unfold prP ptT
  rw [cutE_app _ (esc_no61 _)]
  simp only
  rw [(un_escE _).1, (un_escE _).1, (un_escE _).2, (un_escE _).2, ← isT_eq h]
  rfl
theorem pt_pr {p : List UInt8} {t : D} (h : prP p = some t) : ptT t = p ∧ isT t = true := by
  unfold prP at h
  split at h
  · exact absurd h (by simp)
  · rename_i a b hc
    obtain ⟨h1, h⟩ := cond_some h
    cases h
    simp only [Bool.and_eq_true, beq_iff_eq] at h1
    refine ⟨?_, rfl⟩
    unfold ptT
    show escV (unS a) ++ 61 :: escV (unS b) = p
    rw [esc_unS h1.1, esc_unS h1.2, (cutE_some hc).1]
theorem prL_pts : ∀ {l : List D}, l.all isT = true → prL (l.map ptT) = some l
  | [], _ => rfl
  | t :: r, h => by
    have h : isT t = true ∧ r.all isT = true := by simpa using h
    rw [List.map_cons, prL, pr_pt h.1]
    simp only
    rw [prL_pts h.2]; rfl
theorem pts_prL : ∀ {q : List (List UInt8)} {l : List D}, prL q = some l → l.map ptT = q ∧ l.all isT = true
  | [], l, h => by rw [prL] at h; cases h; exact ⟨rfl, rfl⟩
  | p :: q, l, h => by
    rw [prL] at h
    cases hp : prP p with
    | none => rw [hp] at h; exact absurd h (by simp)
    | some t =>
      rw [hp] at h
      simp only at h
      cases hq : prL q with
      | none => rw [hq] at h; exact absurd h (by simp)
      | some m =>
        rw [hq] at h
        simp only [Option.map_some, Option.some.injEq] at h
        subst h
        obtain ⟨h1, h2⟩ := pts_prL hq
        obtain ⟨h3, h4⟩ := pt_pr hp
        exact ⟨by rw [List.map_cons, h1, h3], by rw [List.all_cons, h2, h4]; rfl⟩
theorem spl_parts : ∀ {q : List (List UInt8)}, q ≠ [] → (∀ p ∈ q, ∀ c ∈ p, c ≠ (38 : UInt8)) → spl 38 (Lib.join q [38]) = q
  | [], h, _ => absurd rfl h
  | [p], _, h => by rw [Lib.join_one, spl_one 38 p (h p (by simp))]
  | p :: x :: q, _, h => by
    rw [join_cons p (by simp), List.append_assoc]
    show spl 38 (p ++ 38 :: Lib.join (x :: q) [38]) = _
    rw [spl_app 38 p _ (h p (by simp)), spl_parts (by simp) fun y hy => h y (List.mem_cons_of_mem _ hy)]
theorem join_ne {t : D} {r : List D} : joinT (t :: r) ≠ [] := by
  unfold joinT
  rw [List.map_cons]
  have : ptT t ≠ [] := by unfold ptT; simp
  cases r with
  | nil => rw [List.map_nil, Lib.join_one]; exact this
  | cons x r => rw [join_cons _ (by simp)]; simp
/-- what is written is read as it was -/
theorem read_written {l : List D} (hl : l.all isT = true) (h : tsB l = true) : psE (txS l) = 0 ∧ psL (txS l) = l := by
  unfold txS
  rw [h, cond_true]
  cases l with
  | nil => exact ⟨rfl, rfl⟩
  | cons t r =>
    have h1 : (joinT (t :: r) == []) = false := beq_eq_false_iff_ne.2 join_ne
    have h2 : spl 38 (joinT (t :: r)) = (t :: r).map ptT := spl_parts (by simp) fun p hp c hc => by
      obtain ⟨t', _, rfl⟩ := List.mem_map.1 hp
      exact pt_no38 t' c hc
    unfold psE psL
    rw [h1, h2, prL_pts hl]
    simp only [cond_false, h, cond_true, and_self]
/-- what is read is written so -/
theorem written_read {s : List UInt8} (h : psE s = 0) : txE (psL s) = 0 ∧ txS (psL s) = s := by
  unfold psE at h
  unfold psL
  cases hs : s == [] with
  | true => rw [eq_of_beq hs]; exact ⟨rfl, rfl⟩
  | false =>
    rw [hs, cond_false] at h
    rw [cond_false]
    cases hp : prL (spl 38 s) with
    | none => rw [hp] at h; exact absurd h (by decide)
    | some l =>
      rw [hp] at h
      simp only at h ⊢
      cases ht : tsB l with
      | false => rw [ht] at h; exact absurd h (by decide)
      | true =>
        rw [cond_true]
        unfold txE txS
        rw [ht]
        refine ⟨rfl, ?_⟩
        rw [cond_true]
        unfold joinT
        rw [(pts_prL hp).1, join_spl]
/-- parts with more than one sign -/
theorem pr_count {p : List UInt8} (h : p.count 61 ≠ 1) : prP p = none := by
  unfold prP
  cases hc : cutE p with
  | none => rfl
  | some q =>
    obtain ⟨a, b⟩ := q
    obtain ⟨h1, h2⟩ := cutE_some hc
    simp only
    cases hb : unE b == 0 with
    | false => simp
    | true =>
      have := un_no61 (eq_of_beq hb)
      rw [h1, List.count_append, List.count_cons_self, List.count_eq_zero.2 h2, List.count_eq_zero.2 this] at h
      exact absurd rfl h
end Go.Proofs.YtjbemleloffafaaGreatDoor.V

/- Grants as text: what the machine over values makes of the texts: equations, written by program; the functions of the contracts are variables. -/
namespace Go.Proofs.YtjbemleloffafaaGreatDoor.V
open Go
set_option maxRecDepth 100000
set_option linter.unusedVariables false
def spJ (C : List D → List UInt8 → Bool) (J : List D → List UInt8 → List UInt8) (args : List AV) : Option (Bool × AV) := match args with
  | [.sl 9 _ l, .s p] => some (C l p, .s (J l p))
  | _ => none
def spSp (sh : List UInt8 → Bool) (Sp : List UInt8 → List D) (args : List AV) : Option (Bool × AV) := match args with
  | [.s s, .s [32]] => some (sh s, .sl 9 .ex (Sp s))
  | _ => none
variable {mx : Int}
def H44v (sh : List UInt8 → Bool) (EV : List UInt8 → List UInt8) : Handle := runS [⟨24, dat (sp1 sh fun p => .s (EV p))⟩]
def H45v (sh : List UInt8 → Bool) (EV : List UInt8 → List UInt8) : Handle := runS [⟨28, dat (sp1 sh fun p => .s (EV p))⟩]
def H47v (sh : List UInt8 → Bool) (NS : List UInt8 → List UInt8) (NE : List UInt8 → Int) : Handle := runS [⟨32, dat (sp1 sh fun p => .tuple [.s (NS p), .i .i64 (NE p)])⟩]
theorem r48 (call : Handle) (lab : Lab) (s : List UInt8) : evF (Γ mx) call lab 35 [.s s] [] =
  lab (todoAt (Γ mx) 35 3) ⟨[(0, .s s), (3, .ref 9 0), (4, .i .i64 0)], [some (.arr 9 [D.str ([] : List UInt8)] false)]⟩ := by kernel_rfl
theorem r48_3a (call : Handle) (lab : Lab) (s1 : List UInt8) (n2 : Int) (l3 : List D) : evL (Γ mx) call lab 35 3 ⟨[(0, .s s1), (3, .ref 9 0), (4, .i .i64 n2)], [some (.arr 9 l3 false)]⟩ =
  bif decide (n2 < ((List.length s1 : Int))) then (idx s1 n2 fun c4 => bif ((c4.toNat : Int)) == 32 then (bif roomB (l3.length + 1) 16 then (lab (todoAt (Γ mx) 35 3) ⟨[(0, .s s1), (3, .ref 9 0), (4, .i .i64 (IntKind.wrap .i64 (n2 + 1)))], [some (.arr 9 (l3 ++ [D.str ([] : List UInt8)]) false)]⟩) else none) else (bif decide ((0:Int) ≤ (IntKind.wrap .i64 (((l3.length : Int)) - 1))) && decide ((IntKind.wrap .i64 (((l3.length : Int)) - 1)) < (l3.length : Int)) then (lGet l3 (Int.toNat (IntKind.wrap .i64 (((l3.length : Int)) - 1))) fun y5 => dStr y5 fun s6 => bif decide ((0:Int) ≤ (IntKind.wrap .i64 (n2 + 1))) && decide ((IntKind.wrap .i64 (n2 + 1)) ≤ (List.length s1 : Int)) then (bif decide ((0:Int) ≤ n2) && decide (n2 ≤ (Int.toNat (IntKind.wrap .i64 (n2 + 1)) : Int)) then (bif decide (List.length s6 + List.length (List.take ((Int.toNat (IntKind.wrap .i64 (n2 + 1))) - (Int.toNat n2)) (List.drop (Int.toNat n2) s1)) ≤ maxStr) then (bif decide ((0:Int) ≤ (IntKind.wrap .i64 (((l3.length : Int)) - 1))) && decide ((IntKind.wrap .i64 (((l3.length : Int)) - 1)) < (l3.length : Int)) then (lGet l3 (Int.toNat (IntKind.wrap .i64 (((l3.length : Int)) - 1))) fun y7 => lab (todoAt (Γ mx) 35 3) ⟨[(0, .s s1), (3, .ref 9 0), (4, .i .i64 (IntKind.wrap .i64 (n2 + 1)))], [some (.arr 9 (List.set l3 (Int.toNat (IntKind.wrap .i64 (((l3.length : Int)) - 1))) (D.str (s6 ++ (List.take ((Int.toNat (IntKind.wrap .i64 (n2 + 1))) - (Int.toNat n2)) (List.drop (Int.toNat n2) s1))))) false)]⟩) else none) else none) else none) else none) else none)) else (some (.sl 9 .any l3, [])) := by kernel_rfl
end Go.Proofs.YtjbemleloffafaaGreatDoor.V

/- Grants: contracts of Allows and the document's Allows; the simplest facts; the law of Allows. -/
namespace Go.Proofs.YtjbemleloffafaaGreatDoor.V
open Go
set_option maxRecDepth 1000000
set_option linter.unusedVariables false
set_option linter.unusedSimpArgs false
variable {mx : Int}
theorem askC_eq {a : D} (h : askC a = true) : ∃ x y z, a = .agg [.str x, .str y, .str z] ∧ short x = true ∧ short y = true ∧ short z = true := by
  unfold askC at h
  split at h
  · simp only [Bool.and_eq_true] at h
    exact ⟨_, _, _, rfl, h.1, h.2.1, h.2.2⟩
  · exact absurd h (by simp)
/-! ### Allows -/
def fin13 (b : Bool) (M : D → Bool) (l : List D) : Bool := (b || l.any M) && !l.any fun g => M g && gDeny g
theorem alC_eq {l : List D} {x y z : List UInt8} (h : alC l x y z = true) : allG l = true ∧ askC (.agg [.str x, .str y, .str z]) = true := by
  unfold alC at h
  simp only [Bool.and_eq_true] at h
  exact ⟨h.1, by unfold askC; simp only [Bool.and_eq_true]; exact h.2⟩
def cntM (M : D → Bool) (b : Bool) : List D → Nat
  | [] => 0
  | g :: r => cntM M b r + (bif M g && (gDeny g == b) then 1 else 0)
theorem cntM_le (M : D → Bool) (b : Bool) : ∀ l : List D, cntM M b l ≤ l.length
  | [] => Nat.le_refl _
  | g :: r => by
    have := cntM_le M b r
    rw [cntM, List.length_cons]
    cases (M g && (gDeny g == b)) <;> simp <;> omega
theorem cnt_fin (M : D → Bool) : ∀ l : List D, (decide (cntM M false l > 0) && decide (cntM M true l = 0)) = (l.any M && !l.any fun g => M g && gDeny g)
  | [] => rfl
  | g :: r => by
    have ih := cnt_fin M r
    rw [cntM, cntM, List.any_cons, List.any_cons]
    cases hM : M g with
    | false => simpa using ih
    | true =>
      cases hd : gDeny g with
      | true => simp
      | false =>
        have h2 : decide (cntM M true r = 0) = !r.any fun g => M g && gDeny g := by
          clear ih
          induction r with
          | nil => rfl
          | cons a s ih =>
            rw [cntM, List.any_cons]
            cases M a <;> cases gDeny a <;> simp_all
        simp [h2]
end Go.Proofs.YtjbemleloffafaaGreatDoor.V

/- Grants as text: contracts. -/
namespace Go.Proofs.YtjbemleloffafaaGreatDoor.V
open Go
set_option maxRecDepth 100000
set_option linter.unusedVariables false
set_option linter.unusedSimpArgs false
variable {mx : Int}
theorem short_le {p : List UInt8} (h : short p = true) : p.length ≤ 4194304 := of_decide_eq_true h
theorem short_of {p : List UInt8} (h : p.length ≤ 4194304) : short p = true := decide_eq_true h
theorem c57 (p : List UInt8) (h : short p = true) : RetX (Γ mx) 24 [.s p] [] (.s (escV p)) [] := esc_ret (by have := short_le h; omega)
theorem c58 (p : List UInt8) (h : short p = true) : RetX (Γ mx) 28 [.s p] [] (.s (escV p)) [] := refEsc_ret (by have := short_le h; omega)
theorem c60 (p : List UInt8) (h : short p = true) : RetX (Γ mx) 32 [.s p] [] (.tuple [.s (unS p), .i .i64 (unE p)]) [] := un_ret (by have := short_le h; omega)
theorem c49 (p : List UInt8) (h : short p = true) : RetX (Γ mx) 37 [.s p] [] (.tuple [.s (unS p), .i .i64 (unE p)]) [] := refUn_ret (by have := short_le h; omega)
theorem h44_ok : CallsOK (Γ mx) (H44v short escV) := specs_ok (.cons (sp1_ok c57) .nil)
theorem h45_ok : CallsOK (Γ mx) (H45v short escV) := specs_ok (.cons (sp1_ok c58) .nil)
theorem h47_ok : CallsOK (Γ mx) (H47v short unS unE) := specs_ok (.cons (sp1_ok c60) .nil)
theorem spJ_ok : SpecOK (Γ mx) ⟨26, dat (spJ joinC joinV)⟩ := dat_ok fun args r hr => by
  unfold spJ at hr
  split at hr
  · simp only [Option.some.injEq, Prod.mk.injEq] at hr
    obtain ⟨h1, rfl⟩ := hr
    exact join_ret _ _ _ h1
  · exact absurd hr (by simp)
theorem spSp_ok : SpecOK (Γ mx) ⟨30, dat (spSp short (splitC 32))⟩ := dat_ok fun args r hr => by
  unfold spSp at hr
  split at hr
  · simp only [Option.some.injEq, Prod.mk.injEq] at hr
    obtain ⟨h1, rfl⟩ := hr
    exact split_ret 32 _ (by have := short_le h1; unfold s32; exact decide_eq_true (by omega))
  · exact absurd hr (by simp)
/-! ### the document's Words -/
def catHd (cur : List UInt8) : List (List UInt8) → List (List UInt8)
  | [] => [cur]
  | p :: q => (cur ++ p) :: q
theorem catHd_nil {L : List (List UInt8)} (h : L ≠ []) : catHd [] L = L := by
  cases L with
  | nil => exact absurd rfl h
  | cons p q => rfl
theorem catHd_cons (cur : List UInt8) (c : UInt8) {L : List (List UInt8)} (h : L ≠ []) : catHd cur (consHd c L) = catHd (cur ++ [c]) L := by
  cases L with
  | nil => exact absurd rfl h
  | cons p q => simp [catHd, consHd]
theorem lget_end {R : Type} (l : List D) (x : D) (K : D → Option R) : lGet (l ++ [x]) l.length K = K x := by unfold lGet; simp
theorem is32 (c : UInt8) : ((c.toNat : Int) == 32) = decide (c = 32) := by
  by_cases h : c = 32
  · subst h; rfl
  · rw [decide_eq_false h]
    have : c.toNat ≠ 32 := fun e => h (UInt8.toNat_inj.1 (by rw [e]; rfl))
    simp; omega
theorem room16b {n : Nat} (h : n ≤ 10000000) : roomB n 16 = true := by
  unfold roomB
  simp only [Bool.and_eq_true, decide_eq_true_eq]
  exact ⟨rfl, by omega⟩
theorem g48 (s : List UInt8) (hs : s.length ≤ 4194304) : ∀ (rest pre : List UInt8) (i : Int) (done : List D) (cur : List UInt8), s = pre ++ rest → i = (pre.length : Int) → done.length + cur.length ≤ pre.length →
    Goes (Γ mx) (runS []) 35 3 ⟨[(0, .s s), (3, .ref 9 0), (4, .i .i64 i)], [some (.arr 9 (done ++ [D.str cur]) false)]⟩ (.sl 9 .any (done ++ (catHd cur (spl 32 rest)).map D.str), [])
  | [], pre, i, done, cur, he, hi, hb => by
    subst hi
    refine Goes.step ⟨0, ?_⟩
    rw [r48_3a, decide_eq_false (show ¬ (pre.length : Int) < (s.length : Int) by rw [he]; simp)]
    simp [spl, catHd]
  | c :: r, pre, i, done, cur, he, hi, hb => by
    subst hi
    have hlen : s.length = pre.length + (r.length + 1) := by rw [he]; simp
    have hid : ∀ {R : Type} (K : UInt8 → Option R), idx s (pre.length : Int) K = K c := fun K => by rw [he]; exact idx_mid pre r _ K
    have hw : IntKind.wrap .i64 ((pre.length : Int) + 1) = (pre.length : Int) + 1 := wrapI (by omega) (by omega)
    have hcut : List.take ((Int.toNat ((pre.length : Int) + 1)) - (Int.toNat (pre.length : Int))) (List.drop (Int.toNat (pre.length : Int)) s) = [c] := by rw [he]; exact cut_one pre r c
    have hsp : spl 32 (c :: r) = if c = 32 then [] :: spl 32 r else consHd c (spl 32 r) := rfl
    by_cases hc : c = 32
    · obtain ⟨n, hn⟩ := g48 s hs r (pre ++ [c]) ((pre.length : Int) + 1) (done ++ [D.str cur]) [] (by rw [he]; simp) (by simp) (by simp; omega)
      refine Goes.step ⟨n, ?_⟩
      rw [r48_3a, decide_eq_true (show (pre.length : Int) < (s.length : Int) by omega), cond_true, hid, is32, decide_eq_true hc, cond_true, room16b (by simp; omega), cond_true, hw, hn, hsp, if_pos hc, catHd_nil (spl_ne 32 r)]
      simp [catHd]
    · obtain ⟨n, hn⟩ := g48 s hs r (pre ++ [c]) ((pre.length : Int) + 1) done (cur ++ [c]) (by rw [he]; simp) (by simp) (by simp; omega)
      refine Goes.step ⟨n, ?_⟩
      have hL : ((done ++ [D.str cur]).length : Int) = (done.length : Int) + 1 := by simp
      have hw2 : IntKind.wrap .i64 (((done ++ [D.str cur]).length : Int) - 1) = (done.length : Int) := by rw [hL, show (done.length : Int) + 1 - 1 = (done.length : Int) by omega]; exact wrapI (by omega) (by omega)
      rw [r48_3a, decide_eq_true (show (pre.length : Int) < (s.length : Int) by omega), cond_true, hid, is32, decide_eq_false hc, cond_false]
      simp only [hw2, hw, hcut]
      rw [decide_eq_true (show (0 : Int) ≤ (done.length : Int) by omega), decide_eq_true (show (done.length : Int) < ((done ++ [D.str cur]).length : Int) by omega), decide_eq_true (show (0 : Int) ≤ (pre.length : Int) + 1 by omega), decide_eq_true (show (pre.length : Int) + 1 ≤ (s.length : Int) by omega), decide_eq_true (show (0 : Int) ≤ (pre.length : Int) by omega), decide_eq_true (show (pre.length : Int) ≤ (Int.toNat ((pre.length : Int) + 1) : Int) by omega)]
      have hm : decide (cur.length + [c].length ≤ maxStr) = true := fits_max (show cur.length + [c].length ≤ 70368744177664 by simp; omega)
      simp only [hm, Bool.and_self, cond_true, Int.toNat_natCast, lget_end, dStr, List.set_append_right _ _ (Nat.le_refl _), Nat.sub_self, List.set_cons_zero]
      rw [hn, hsp, if_neg hc, catHd_cons cur c (spl_ne 32 r)]
theorem c48 (p : List UInt8) (h : short p = true) : RetX (Γ mx) 35 [.s p] [] (.sl 9 .any (splitC 32 p)) [] := by
  obtain ⟨n, hn⟩ := g48 (mx := mx) p (short_le h) p [] 0 [] [] rfl rfl (Nat.le_refl _)
  rw [catHd_nil (spl_ne 32 p), ← split_spl] at hn
  exact ret_goes (Γ := Γ mx) hP hZ none_ok (by kernel_rfl) ⟨n, by rw [r48]; exact hn⟩
/-! ### Text -/
theorem pcB_len {p : List UInt8} (h : pcB p = true) : p.length ≤ 200 := by
  unfold pcB at h
  simp only [Bool.and_eq_true, decide_eq_true_eq] at h
  exact h.1
theorem word_len (p : List UInt8) : (wordV p).length ≤ 3 * p.length + 1 := by
  unfold wordV
  cases (p == []) with
  | true => simp
  | false => have := esc_len p; simp; omega
theorem gr1 {b : Bool} {w t k : List UInt8} (h : grB [.agg [.bool b, .str w, .str t, .str k]] = true) : w.length ≤ 200 ∧ t.length ≤ 200 ∧ k.length ≤ 200 := by
  have h : (true && ((pcB w && (pcB t && pcB k)) && true)) = true := h
  simp only [Bool.true_and, Bool.and_true, Bool.and_eq_true] at h
  exact ⟨pcB_len h.1, pcB_len h.2.1, pcB_len h.2.2⟩
theorem allG1 (b : Bool) (w t k : List UInt8) : allG [.agg [.bool b, .str w, .str t, .str k]] = true := rfl
/-! ### Parse -/
theorem len4 {α : Type} {L : List α} (h : ∀ a b c d, L ≠ [a, b, c, d]) : L.length ≠ 4 := fun hl => by
  match L, hl with
  | [a, b, c, d], _ => exact h a b c d rfl
theorem paL_ne {s : List UInt8} (h : ∀ a b c d, spl 32 s ≠ [a, b, c, d]) : paL s = none := by
  unfold paL
  split
  · rename_i a b c d hs; exact absurd hs (h a b c d)
  · rfl
theorem paL_4 {s a b c d : List UInt8} (h : spl 32 s = [a, b, c, d]) : paL s = bif (a == allowW || a == denyW) && (uwB b && (uwB c && uwB d)) then some (a == denyW, uwS b, uwS c, uwS d) else none := by
  unfold paL; rw [h]
theorem split4 {s a b c d : List UInt8} (h : spl 32 s = [a, b, c, d]) : splitC 32 s = [D.str a, D.str b, D.str c, D.str d] := by
  unfold splitC; rw [split_spl, h]; rfl
/-- one word -/
theorem un_uw (b : List UInt8) {R : Type} (A : List UInt8 → R) (Z : R) : (bif b == [37] then A [] else (bif (unE b) != 0 then Z else (bif (unS b) == [] then Z else A (unS b)))) = bif uwB b then A (uwS b) else Z := by
  unfold uwB uwS
  cases (b == [37]) with
  | true => rfl
  | false =>
    rw [show ((unE b) != 0) = !(unE b == 0) from rfl]
    cases (unE b == 0) <;> cases (unS b == []) <;> rfl
/-! ### the laws -/
theorem text_len (b : Bool) (w t k : List UInt8) : (textS (D.agg [D.bool b, D.str w, D.str t, D.str k])).length ≤ 4194304 := by
  have e : textS (.agg [.bool b, .str w, .str t, .str k]) = bif grB [.agg [.bool b, .str w, .str t, .str k]] then joinV [.str (firstW b), .str (wordV w), .str (wordV t), .str (wordV k)] [32] else [] := rfl
  rw [e]
  cases hg : grB [.agg [.bool b, .str w, .str t, .str k]] with
  | false => simp
  | true =>
    obtain ⟨h1, h2, h3⟩ := gr1 hg
    have := word_len w; have := word_len t; have := word_len k
    have : (firstW b).length ≤ 5 := by cases b <;> decide
    rw [join4, cond_true]
    simp only [List.length_append, List.length_cons]; omega
end Go.Proofs.YtjbemleloffafaaGreatDoor.V

/- utf8.ValidString, as the library's contract has it. The layings are written by program. -/
namespace Go.Proofs
set_option maxRecDepth 100000
def Lc.lays196_ren : Go.Shelf.Ren := ⟨fun | 196 => 81 | 259 => 102 | n => n, fun | 0 => 0 | 3 => 3 | 4 => 4 | 5 => 5 | 9 => 9 | 12 => 12 | 46 => 94 | 53 => 29 | 119 => 123 | 138 => 125 | 139 => 126 | n => n, fun | 3 => 1 | 4 => 2 | n => n⟩
theorem Lc.lays196 : Go.Proofs.Lays.n196 Tryz.prog Lc.lays196_ren :=
  { mixed := by kernel_rfl, f196 := Tryz.func81.trans (congrArg some (by kernel_rfl)), f259 := Tryz.func102.trans (congrArg some (by kernel_rfl)), t0 := Tryz.underlying0, a0 := Tryz.isAgg0, z0 := Tryz.sizeOf0, v0 := Tryz.zeroValue0, t3 := Tryz.underlying3, a3 := Tryz.isAgg3, z3 := Tryz.sizeOf3, v3 := Tryz.zeroValue3, t4 := Tryz.underlying4, a4 := Tryz.isAgg4, z4 := Tryz.sizeOf4, v4 := Tryz.zeroValue4, t5 := Tryz.underlying5, a5 := Tryz.isAgg5, z5 := Tryz.sizeOf5, v5 := Tryz.zeroValue5, t9 := Tryz.underlying9, a9 := Tryz.isAgg9, z9 := Tryz.sizeOf9, v9 := Tryz.zeroValue9, t12 := Tryz.underlying12, a12 := Tryz.isAgg12, z12 := Tryz.sizeOf12, v12 := Tryz.zeroValue12, t46 := Tryz.underlying94, a46 := Tryz.isAgg94, z46 := Tryz.sizeOf94, v46 := Tryz.zeroValue94, t53 := Tryz.underlying29, a53 := Tryz.isAgg29, z53 := Tryz.sizeOf29, v53 := Tryz.zeroValue29, t119 := Tryz.underlying123, a119 := Tryz.isAgg123, z119 := Tryz.sizeOf123, t138 := Tryz.underlying125, a138 := Tryz.isAgg125, z138 := Tryz.sizeOf125, v138 := Tryz.zeroValue125, t139 := Tryz.underlying126, a139 := Tryz.isAgg126, z139 := Tryz.sizeOf126, v139 := Tryz.zeroValue126, g3 := by kernel_rfl, g4 := by kernel_rfl }
end Go.Proofs
namespace Go.Proofs.YtjbemleloffafaaGreatDoor.V
open Go Go.RowKit
set_option maxRecDepth 100000
set_option linter.unusedVariables false
variable {mx : Int}
theorem tabs {w : World} {S : Addr → Prop} (h : GlobOK (Γ mx) w S) : Lib.Utf8Tabs 1 2 w := by
  obtain ⟨v0, c0, r0, _⟩ := h.data 1 123 tFirst rfl
  obtain ⟨v1, c1, r1, _⟩ := h.data 2 126 tAcc rfl
  have e0 := flatD_ok _ _ _ (by kernel_rfl) r0
  have e1 := flatD_ok _ _ _ (by kernel_rfl) r1
  subst e0 e1
  have f0 : flatD tFirst = (List.range 256).map fun c => Value.int .u8 (Lib.firstT c) := by kernel_rfl
  have f1 : flatD tAcc = (List.range 32).map fun c => Value.int .u8 (if c % 2 = 0 then Lib.accLo (c / 2) else Lib.accHi (c / 2)) := by kernel_rfl
  refine ⟨fun c hc => ?_, fun i hi => ⟨?_, ?_⟩⟩
  · have := (c0 c _ (by rw [f0, List.getElem?_map, List.getElem?_range hc]; rfl)).1
    simpa using this
  · have := (c1 (2 * i) _ (by rw [f1, List.getElem?_map, List.getElem?_range (by omega)]; rfl)).1
    simpa using this
  · have := (c1 (2 * i + 1) _ (by rw [f1, List.getElem?_map, List.getElem?_range (by omega)]; rfl)).1
    rw [Nat.zero_add] at this
    rw [this]
    show some (Value.int .u8 (if (2 * i + 1) % 2 = 0 then Lib.accLo ((2 * i + 1) / 2) else Lib.accHi ((2 * i + 1) / 2))) = _
    rw [if_neg (by omega), show (2 * i + 1) / 2 = i by omega]
theorem valid_ret (s : List UInt8) (h : s32 s = true) : RetX (Γ mx) 81 [.s s] [] (.b (Lib.validD s)) [] := by
  refine ret_shelf (by kernel_rfl) fun w S vals hG ha => ?_
  simp only [RepAs, RepA] at ha
  obtain ⟨v, _, rfl, ⟨s, rfl, rfl⟩, rfl⟩ := ha
  have e1 : s.size = s.data.toList.length := by simp
  simp only [s32, decide_eq_true_eq] at h
  refine (Any.utf8_ValidString Lc.lays196 s w (by omega) (tabs hG)).mono fun e w' ⟨he, hw⟩ => ⟨_, he, hw, ?_⟩
  simp only [RepA]
end Go.Proofs.YtjbemleloffafaaGreatDoor.V

/- Clean texts: what the machine over values makes of the functions. Written by program. -/
namespace Go.Proofs.YtjbemleloffafaaGreatDoor.V
open Go
set_option maxRecDepth 100000
set_option linter.unusedVariables false
set_option linter.unusedSimpArgs false
variable {mx : Int}
def Hval : Handle := runS [⟨81, dat (sp1 s32 fun s => .b (Lib.validD s))⟩]
theorem r82 (lab : Lab) (s : List UInt8) : evF (Γ mx) Hval lab 54 [.s s] [] =
  lab (todoAt (Γ mx) 54 2) ⟨[(0, .s s), (6, .sl 5 .any (bytesD s)), (7, .i .i64 (((bytesD s).length : Int))), (8, .i .i64 0)], []⟩ := by kernel_rfl
theorem r82_2a (lab : Lab) (s1 : List UInt8) (l2 : List D) (n3 : Int) (n4 : Int) : evL (Γ mx) Hval lab 54 2 ⟨[(0, .s s1), (6, .sl 5 .any l2), (7, .i .i64 n3), (8, .i .i64 n4)], []⟩ =
  bif decide (n4 < n3) then (idx l2 n4 fun y5 => dInt .u8 y5 fun n6 => bif decide (n6 < 32) then (some (.b false, [])) else (bif n6 == 127 then (some (.b false, [])) else (lab (todoAt (Γ mx) 54 2) ⟨[(0, .s s1), (6, .sl 5 .any l2), (7, .i .i64 n3), (8, .i .i64 (IntKind.wrap .i64 (n4 + 1)))], []⟩))) else (bif s32 s1 then (some (.b (Lib.validD s1), [])) else none) := by kernel_rfl
theorem r55 (call : Handle) (lab : Lab) (s : List UInt8) : evF (Γ mx) call lab 44 [.s s] [] =
  lab (todoAt (Γ mx) 44 2) ⟨[(0, .s s), (3, .i .i64 0)], []⟩ := by kernel_rfl
theorem r55_2a (call : Handle) (lab : Lab) (s1 : List UInt8) (n2 : Int) : evL (Γ mx) call lab 44 2 ⟨[(0, .s s1), (3, .i .i64 n2)], []⟩ =
  bif decide (n2 < ((List.length s1 : Int))) then (idx s1 n2 fun c3 => bif decide ((IntKind.wrap .i64 ((c3.toNat : Int))) < 128) then (bif decide ((IntKind.wrap .i64 ((c3.toNat : Int))) < 32) then (some (.b false, [])) else (bif (IntKind.wrap .i64 ((c3.toNat : Int))) == 127 then (some (.b false, [])) else (lab (todoAt (Γ mx) 44 16) ⟨[(0, .s s1), (3, .i .i64 n2), (5, .i .i64 1), (6, .i .i64 (IntKind.wrap .i64 ((c3.toNat : Int)))), (7, .i .i64 0), (8, .i .i64 1)], []⟩))) else (bif decide ((IntKind.wrap .i64 ((c3.toNat : Int))) ≥ 192) then (bif decide ((IntKind.wrap .i64 ((c3.toNat : Int))) < 224) then (bif decide ((IntKind.wrap .i64 ((c3.toNat : Int))) < 32) then (some (.b false, [])) else (bif (IntKind.wrap .i64 ((c3.toNat : Int))) == 127 then (some (.b false, [])) else (lab (todoAt (Γ mx) 44 16) ⟨[(0, .s s1), (3, .i .i64 n2), (5, .i .i64 2), (6, .i .i64 (IntKind.wrap .i64 ((IntKind.wrap .i64 ((c3.toNat : Int))) - 192))), (7, .i .i64 128), (8, .i .i64 1)], []⟩))) else (bif decide ((IntKind.wrap .i64 ((c3.toNat : Int))) ≥ 224) then (bif decide ((IntKind.wrap .i64 ((c3.toNat : Int))) < 240) then (bif decide ((IntKind.wrap .i64 ((c3.toNat : Int))) < 32) then (some (.b false, [])) else (bif (IntKind.wrap .i64 ((c3.toNat : Int))) == 127 then (some (.b false, [])) else (lab (todoAt (Γ mx) 44 16) ⟨[(0, .s s1), (3, .i .i64 n2), (5, .i .i64 3), (6, .i .i64 (IntKind.wrap .i64 ((IntKind.wrap .i64 ((c3.toNat : Int))) - 224))), (7, .i .i64 2048), (8, .i .i64 1)], []⟩))) else (bif decide ((IntKind.wrap .i64 ((c3.toNat : Int))) ≥ 240) then (bif decide ((IntKind.wrap .i64 ((c3.toNat : Int))) < 248) then (bif decide ((IntKind.wrap .i64 ((c3.toNat : Int))) < 32) then (some (.b false, [])) else (bif (IntKind.wrap .i64 ((c3.toNat : Int))) == 127 then (some (.b false, [])) else (lab (todoAt (Γ mx) 44 16) ⟨[(0, .s s1), (3, .i .i64 n2), (5, .i .i64 4), (6, .i .i64 (IntKind.wrap .i64 ((IntKind.wrap .i64 ((c3.toNat : Int))) - 240))), (7, .i .i64 65536), (8, .i .i64 1)], []⟩))) else (some (.b false, []))) else (some (.b false, [])))) else (bif decide ((IntKind.wrap .i64 ((c3.toNat : Int))) ≥ 240) then (bif decide ((IntKind.wrap .i64 ((c3.toNat : Int))) < 248) then (bif decide ((IntKind.wrap .i64 ((c3.toNat : Int))) < 32) then (some (.b false, [])) else (bif (IntKind.wrap .i64 ((c3.toNat : Int))) == 127 then (some (.b false, [])) else (lab (todoAt (Γ mx) 44 16) ⟨[(0, .s s1), (3, .i .i64 n2), (5, .i .i64 4), (6, .i .i64 (IntKind.wrap .i64 ((IntKind.wrap .i64 ((c3.toNat : Int))) - 240))), (7, .i .i64 65536), (8, .i .i64 1)], []⟩))) else (some (.b false, []))) else (some (.b false, []))))) else (bif decide ((IntKind.wrap .i64 ((c3.toNat : Int))) ≥ 224) then (bif decide ((IntKind.wrap .i64 ((c3.toNat : Int))) < 240) then (bif decide ((IntKind.wrap .i64 ((c3.toNat : Int))) < 32) then (some (.b false, [])) else (bif (IntKind.wrap .i64 ((c3.toNat : Int))) == 127 then (some (.b false, [])) else (lab (todoAt (Γ mx) 44 16) ⟨[(0, .s s1), (3, .i .i64 n2), (5, .i .i64 3), (6, .i .i64 (IntKind.wrap .i64 ((IntKind.wrap .i64 ((c3.toNat : Int))) - 224))), (7, .i .i64 2048), (8, .i .i64 1)], []⟩))) else (bif decide ((IntKind.wrap .i64 ((c3.toNat : Int))) ≥ 240) then (bif decide ((IntKind.wrap .i64 ((c3.toNat : Int))) < 248) then (bif decide ((IntKind.wrap .i64 ((c3.toNat : Int))) < 32) then (some (.b false, [])) else (bif (IntKind.wrap .i64 ((c3.toNat : Int))) == 127 then (some (.b false, [])) else (lab (todoAt (Γ mx) 44 16) ⟨[(0, .s s1), (3, .i .i64 n2), (5, .i .i64 4), (6, .i .i64 (IntKind.wrap .i64 ((IntKind.wrap .i64 ((c3.toNat : Int))) - 240))), (7, .i .i64 65536), (8, .i .i64 1)], []⟩))) else (some (.b false, []))) else (some (.b false, [])))) else (bif decide ((IntKind.wrap .i64 ((c3.toNat : Int))) ≥ 240) then (bif decide ((IntKind.wrap .i64 ((c3.toNat : Int))) < 248) then (bif decide ((IntKind.wrap .i64 ((c3.toNat : Int))) < 32) then (some (.b false, [])) else (bif (IntKind.wrap .i64 ((c3.toNat : Int))) == 127 then (some (.b false, [])) else (lab (todoAt (Γ mx) 44 16) ⟨[(0, .s s1), (3, .i .i64 n2), (5, .i .i64 4), (6, .i .i64 (IntKind.wrap .i64 ((IntKind.wrap .i64 ((c3.toNat : Int))) - 240))), (7, .i .i64 65536), (8, .i .i64 1)], []⟩))) else (some (.b false, []))) else (some (.b false, [])))))) else (some (.b true, [])) := by kernel_rfl
theorem r55_16a (call : Handle) (lab : Lab) (s1 : List UInt8) (n2 : Int) (n3 : Int) (n4 : Int) (n5 : Int) (n6 : Int) : evL (Γ mx) call lab 44 16 ⟨[(0, .s s1), (3, .i .i64 n2), (5, .i .i64 n3), (6, .i .i64 n4), (7, .i .i64 n5), (8, .i .i64 n6)], []⟩ =
  bif decide (n6 < n3) then (bif decide ((IntKind.wrap .i64 (n2 + n6)) ≥ ((List.length s1 : Int))) then (some (.b false, [])) else (idx s1 (IntKind.wrap .i64 (n2 + n6)) fun c7 => bif decide (((c7.toNat : Int)) < 128) then (some (.b false, [])) else (idx s1 (IntKind.wrap .i64 (n2 + n6)) fun c8 => bif decide (((c8.toNat : Int)) ≥ 192) then (some (.b false, [])) else (idx s1 (IntKind.wrap .i64 (n2 + n6)) fun c9 => lab (todoAt (Γ mx) 44 16) ⟨[(0, .s s1), (3, .i .i64 n2), (5, .i .i64 n3), (6, .i .i64 (IntKind.wrap .i64 ((IntKind.wrap .i64 ((IntKind.wrap .i64 (n4 * 64)) + (IntKind.wrap .i64 ((c9.toNat : Int))))) - 128))), (7, .i .i64 n5), (8, .i .i64 (IntKind.wrap .i64 (n6 + 1)))], []⟩)))) else (bif decide (n4 < n5) then (some (.b false, [])) else (bif decide (n4 > 1114111) then (some (.b false, [])) else (bif decide (n4 ≥ 55296) then (bif decide (n4 ≤ 57343) then (some (.b false, [])) else (lab (todoAt (Γ mx) 44 2) ⟨[(0, .s s1), (3, .i .i64 (IntKind.wrap .i64 (n2 + n3)))], []⟩)) else (lab (todoAt (Γ mx) 44 2) ⟨[(0, .s s1), (3, .i .i64 (IntKind.wrap .i64 (n2 + n3)))], []⟩)))) := by kernel_rfl
end Go.Proofs.YtjbemleloffafaaGreatDoor.V

/- Clean texts: what the machine over values comes to at label.Clean, ref.Clean. -/
namespace Go.Proofs.YtjbemleloffafaaGreatDoor.V
open Go
set_option maxRecDepth 100000
set_option linter.unusedVariables false
set_option linter.unusedSimpArgs false
variable {mx : Int}
theorem hval_ok : CallsOK (Γ mx) Hval := specs_ok (.cons (sp1_ok fun s h => valid_ret s h) .nil)
/-! ### label.Clean -/
theorem clean_goes (s : List UInt8) (hs : s.length ≤ 1073741824) : ∀ (rest pre : List UInt8) (i : Int), s = pre ++ rest → i = (pre.length : Int) →
    Goes (Γ mx) Hval 54 2 ⟨[(0, .s s), (6, .sl 5 .any (bytesD s)), (7, .i .i64 (((bytesD s).length : Int))), (8, .i .i64 i)], []⟩ (.b (rest.all cleanB && Lib.validD s), [])
  | [], pre, i, he, hi => by
    subst hi
    refine Goes.step ⟨0, ?_⟩
    rw [r82_2a]
    have d1 : decide ((pre.length : Int) < ((bytesD s).length : Int)) = false := decide_eq_false (by rw [bytesD_len, he]; simp)
    have h32 : s32 s = true := by simpa [s32] using (by omega)
    rw [d1, h32]
    rfl
  | c :: r, pre, i, he, hi => by
    subst hi
    have hpl : pre.length + (r.length + 1) = s.length := by rw [he]; simp
    obtain ⟨k, hk⟩ := clean_goes s hs r (pre ++ [c]) ((pre.length : Int) + 1) (by rw [he]; simp) (by simp)
    refine Goes.step ⟨k, ?_⟩
    rw [r82_2a]
    have d1 : decide ((pre.length : Int) < ((bytesD s).length : Int)) = true := decide_eq_true (by rw [bytesD_len]; omega)
    have hw : IntKind.wrap .i64 ((pre.length : Int) + 1) = (pre.length : Int) + 1 := wrapI (by omega) (by omega)
    have hid : ∀ {R : Type} (K : D → Option R), idx (bytesD s) (pre.length : Int) K = K (.int .u8 c.toNat) := fun K => by rw [he]; exact idx_bytes _ _ _ K
    have hdi : ∀ {R : Type} (n : Int) (K : Int → Option R), dInt .u8 (.int .u8 n) K = K n := fun n K => by rfl
    simp only [d1, cond_true, hid, hdi, hw, List.all_cons]
    by_cases h1 : (c.toNat : Int) < 32
    · have : cleanB c = false := by simp [cleanB] <;> omega
      rw [decide_eq_true h1, this]; rfl
    · rw [decide_eq_false h1]
      by_cases h2 : c.toNat = 127
      · have : cleanB c = false := by simp [cleanB, h2]
        have e : ((c.toNat : Int) == 127) = true := by rw [h2]; rfl
        rw [e, this]; rfl
      · have : cleanB c = true := by simp [cleanB, h2] <;> omega
        have e : ((c.toNat : Int) == 127) = false := by simp <;> omega
        rw [e, this]
        exact hk
theorem clean_ret (s : List UInt8) (hs : s.length ≤ 1073741824) : RetX (Γ mx) 54 [.s s] [] (.b (cleanV s)) [] := by
  obtain ⟨k, hk⟩ := clean_goes s hs s [] 0 rfl rfl
  refine ret_goes hP hZ hval_ok (by kernel_rfl) ⟨k, ?_⟩
  rw [r82]; exact hk

/-! ### ref.Clean -/
def innB (least : Nat) (B : Bool) : Option Nat → Bool
  | none => false
  | some y => if fineX least y = true then B else false
theorem inn_goes (call : Handle) (s pre : List UInt8) (n least : Nat) (B : Bool) (hs : s.length ≤ 1099511627776) (hn : n ≤ 4) (hl : least ≤ 65536) :
    ∀ (m x : Nat) (q r : List UInt8), s = pre ++ (q ++ r) → q.length + m = n → (x + 2) * 64 ^ m ≤ 1099511627776 →
    (∀ y, inn m x (r) = some y → fineX least y = true → Goes (Γ mx) call 44 2 ⟨[(0, .s s), (3, .i .i64 (IntKind.wrap .i64 ((pre.length : Int) + (n : Int))))], []⟩ (.b B, [])) →
    Goes (Γ mx) call 44 16 ⟨[(0, .s s), (3, .i .i64 (pre.length : Int)), (5, .i .i64 (n : Int)), (6, .i .i64 (x : Int)), (7, .i .i64 (least : Int)), (8, .i .i64 (q.length : Int))], []⟩ (.b (innB least B (inn m x r)), [])
  | 0, x, q, r, he, hq, hx, hB => by
    have d0 : decide ((q.length : Int) < (n : Int)) = false := decide_eq_false (by omega)
    simp only [inn, innB]
    by_cases h1 : x < least
    · refine Goes.step ⟨0, ?_⟩
      rw [r55_16a, d0]
      have : fineX least x = false := by simp [fineX] <;> omega
      rw [decide_eq_true (show (x : Int) < (least : Int) by omega), this]; rfl
    · by_cases h2 : x > 1114111
      · refine Goes.step ⟨0, ?_⟩
        rw [r55_16a, d0]
        have : fineX least x = false := by simp [fineX] <;> omega
        rw [decide_eq_false (show ¬ (x : Int) < (least : Int) by omega), decide_eq_true (show (x : Int) > 1114111 by omega), this]; rfl
      · by_cases h3 : x ≥ 55296
        · by_cases h4 : x ≤ 57343
          · refine Goes.step ⟨0, ?_⟩
            rw [r55_16a, d0]
            have : fineX least x = false := by simp [fineX] <;> omega
            rw [decide_eq_false (show ¬ (x : Int) < (least : Int) by omega), decide_eq_false (show ¬ (x : Int) > 1114111 by omega), decide_eq_true (show (x : Int) ≥ 55296 by omega), decide_eq_true (show (x : Int) ≤ 57343 by omega), this]; rfl
          · have hf : fineX least x = true := by simp [fineX] <;> omega
            obtain ⟨k, hk⟩ := hB x rfl hf
            refine Goes.step ⟨k, ?_⟩
            rw [r55_16a, d0]
            rw [decide_eq_false (show ¬ (x : Int) < (least : Int) by omega), decide_eq_false (show ¬ (x : Int) > 1114111 by omega), decide_eq_true (show (x : Int) ≥ 55296 by omega), decide_eq_false (show ¬ (x : Int) ≤ 57343 by omega), if_pos hf]
            exact hk
        · have hf : fineX least x = true := by simp [fineX] <;> omega
          obtain ⟨k, hk⟩ := hB x rfl hf
          refine Goes.step ⟨k, ?_⟩
          rw [r55_16a, d0]
          rw [decide_eq_false (show ¬ (x : Int) < (least : Int) by omega), decide_eq_false (show ¬ (x : Int) > 1114111 by omega), decide_eq_false (show ¬ (x : Int) ≥ 55296 by omega), if_pos hf]
          exact hk
  | m + 1, x, q, [], he, hq, hx, hB => by
    have hsl : s.length = pre.length + q.length := by rw [he]; simp
    refine Goes.step ⟨0, ?_⟩
    rw [r55_16a, wrapI (n := (pre.length : Int) + (q.length : Int)) (by omega) (by omega)]
    rw [decide_eq_true (show (q.length : Int) < (n : Int) by omega), decide_eq_true (show (pre.length : Int) + (q.length : Int) ≥ (s.length : Int) by omega)]
    rfl
  | m + 1, x, q, b :: r, he, hq, hx, hB => by
    have hsl : s.length = pre.length + q.length + (r.length + 1) := by rw [he]; simp <;> omega
    have hb := b.toNat_lt
    have hpow : (x + 2) * 64 ^ (m + 1) = (x + 2) * 64 * 64 ^ m := by rw [Nat.pow_succ, Nat.mul_comm (64 ^ m) 64, Nat.mul_assoc]
    have hp1 : 1 ≤ 64 ^ m := Nat.pow_pos (by decide)
    have hx1 : (x + 2) * 64 ≤ 1099511627776 := Nat.le_trans (Nat.le_mul_of_pos_right _ hp1) (by rw [← hpow]; exact hx)
    have hwi : IntKind.wrap .i64 ((pre.length : Int) + (q.length : Int)) = ((pre ++ q).length : Int) := by rw [wrapI (by omega) (by omega)]; simp
    have hid : ∀ {R : Type} (K : UInt8 → Option R), idx s ((pre ++ q).length : Int) K = K b := fun K => by rw [he, ← List.append_assoc]; exact idx_mid _ _ _ K
    have d0 : decide ((q.length : Int) < (n : Int)) = true := decide_eq_true (by omega)
    have d1 : decide (((pre ++ q).length : Int) ≥ (s.length : Int)) = false := decide_eq_false (by simp <;> omega)
    by_cases hk1 : 128 ≤ b.toNat ∧ b.toNat < 192
    · have e1 : decide ((b.toNat : Int) < 128) = false := decide_eq_false (by omega)
      have e2 : decide ((b.toNat : Int) ≥ 192) = false := decide_eq_false (by omega)
      obtain ⟨k, hk⟩ := inn_goes call s pre n least B hs hn hl m (x * 64 + b.toNat - 128) (q ++ [b]) r (by rw [he]; simp) (by simp <;> omega)
        (Nat.le_trans (Nat.mul_le_mul_right _ (show x * 64 + b.toNat - 128 + 2 ≤ (x + 2) * 64 by omega)) (by rw [← hpow]; exact hx))
        (fun y hy hf => hB y (by rw [inn, if_pos hk1]; exact hy) hf)
      refine Goes.step ⟨k, ?_⟩
      have hw1 : IntKind.wrap .i64 ((x : Int) * 64) = (x : Int) * 64 := wrapI (by omega) (by omega)
      have hw2 : IntKind.wrap .i64 ((b.toNat : Int)) = (b.toNat : Int) := wrapI (by omega) (by omega)
      have hw3 : IntKind.wrap .i64 ((x : Int) * 64 + (b.toNat : Int)) = (x : Int) * 64 + (b.toNat : Int) := wrapI (by omega) (by omega)
      have hw4 : IntKind.wrap .i64 ((x : Int) * 64 + (b.toNat : Int) - 128) = ((x * 64 + b.toNat - 128 : Nat) : Int) := by rw [wrapI (by omega) (by omega)]; omega
      have hw5 : IntKind.wrap .i64 ((q.length : Int) + 1) = ((q ++ [b]).length : Int) := by rw [wrapI (by omega) (by omega)]; simp
      rw [r55_16a]
      simp only [d0, cond_true, hwi, d1, cond_false, hid, e1, e2, hw1, hw2, hw3, hw4, hw5]
      rw [hk, inn, if_pos hk1]
    · refine Goes.step ⟨0, ?_⟩
      rw [r55_16a]
      simp only [d0, cond_true, hwi, d1, cond_false, hid, inn, if_neg hk1, innB]
      by_cases e1 : (b.toNat : Int) < 128
      · rw [decide_eq_true e1]; rfl
      · rw [decide_eq_false e1, decide_eq_true (show (b.toNat : Int) ≥ 192 by omega)]; rfl
theorem refClean_goes (call : Handle) (s : List UInt8) (hs : s.length ≤ 1073741824) : ∀ (f : Nat) (rest pre : List UInt8) (i : Int), rest.length ≤ f → s = pre ++ rest → i = (pre.length : Int) →
    Goes (Γ mx) call 44 2 ⟨[(0, .s s), (3, .i .i64 i)], []⟩ (.b (cleanGo f rest), [])
  | f, [], pre, i, hf, he, hi => by
    subst hi
    refine Goes.step ⟨0, ?_⟩
    rw [r55_2a]
    have d1 : decide ((pre.length : Int) < (s.length : Int)) = false := decide_eq_false (by rw [he]; simp)
    have : cleanGo f [] = true := by cases f <;> rfl
    rw [d1, this]; rfl
  | 0, c :: r, pre, i, hf, he, hi => absurd hf (by simp)
  | f + 1, c :: r, pre, i, hf, he, hi => by
    subst hi
    have hsl : s.length = pre.length + (r.length + 1) := by rw [he]; simp
    have hcl := c.toNat_lt
    have d1 : decide ((pre.length : Int) < (s.length : Int)) = true := decide_eq_true (by omega)
    have hid : ∀ {R : Type} (K : UInt8 → Option R), idx s (pre.length : Int) K = K c := fun K => by rw [he]; exact idx_mid _ _ _ K
    have hwc : IntKind.wrap .i64 ((c.toNat : Int)) = (c.toNat : Int) := wrapI (by omega) (by omega)
    have go : ∀ (m x least : Nat), m ≤ 3 → x ≤ 256 → least ≤ 65536 → lead c = some (m, x, least) → cleanB c = true →
        Goes (Γ mx) call 44 16 ⟨[(0, .s s), (3, .i .i64 (pre.length : Int)), (5, .i .i64 ((m + 1 : Nat) : Int)), (6, .i .i64 (x : Int)), (7, .i .i64 (least : Int)), (8, .i .i64 1)], []⟩ (.b (cleanGo (f + 1) (c :: r)), []) := fun m x least hm hx hl hld hcb => by
      have hB : innB least (cleanGo f (r.drop m)) (inn m x r) = cleanGo (f + 1) (c :: r) := by
        simp only [cleanGo, hld, hcb, innB]
        cases inn m x r <;> simp
      rw [← hB]
      refine inn_goes call s pre (m + 1) least _ (by omega) (by omega) hl m x [c] r (by rw [he]; simp) (by simp <;> omega) ?_ fun y hy hfine => ?_
      · refine Nat.le_trans (Nat.mul_le_mul (show x + 2 ≤ 258 by omega) (Nat.pow_le_pow_right (by omega) hm)) (by decide)
      · have hlen : ∀ (m x : Nat) (r : List UInt8) (y : Nat), inn m x r = some y → m ≤ r.length := fun m => by
          induction m with
          | zero => intro x r y h; omega
          | succ m ih =>
            intro x r y h
            cases r with
            | nil => simp [inn] at h
            | cons b r =>
              rw [inn] at h
              split at h
              · have := ih _ _ _ h; simp <;> omega
              · exact absurd h (by simp)
        have hml := hlen m x r y hy
        have hw : IntKind.wrap .i64 ((pre.length : Int) + ((m + 1 : Nat) : Int)) = ((pre ++ c :: r.take m).length : Int) := by
          rw [wrapI (by omega) (by omega)]; simp only [List.length_append, List.length_cons, List.length_take]; omega
        rw [hw]
        exact refClean_goes call s hs f (r.drop m) (pre ++ c :: r.take m) _ (by simp at hf ⊢; omega) (by rw [he]; simp) rfl
    by_cases h1 : c.toNat < 128
    · have hld : lead c = some (0, c.toNat, 0) := by simp [lead, h1]
      by_cases hcb : cleanB c = true
      · obtain ⟨k, hk⟩ := go 0 c.toNat 0 (by omega) (by omega) (by omega) hld hcb
        refine Goes.step ⟨k, ?_⟩
        simp only [cleanB, Bool.and_eq_true, decide_eq_true_eq] at hcb
        have e : ((c.toNat : Int) == 127) = false := by simp <;> omega
        rw [r55_2a]
        simp only [d1, cond_true, hid, hwc, decide_eq_true (show (c.toNat : Int) < 128 by omega), decide_eq_false (show ¬ (c.toNat : Int) < 32 by omega), e, cond_false]
        exact hk
      · have hcb' : cleanB c = false := Bool.eq_false_iff.2 hcb
        refine Goes.step ⟨0, ?_⟩
        rw [r55_2a]
        simp only [d1, cond_true, hid, hwc, decide_eq_true (show (c.toNat : Int) < 128 by omega), cleanGo, hld, hcb', if_true]
        by_cases e1 : (c.toNat : Int) < 32
        · rw [decide_eq_true e1]; rfl
        · rw [decide_eq_false e1]
          have : c.toNat = 127 := by
            simp only [cleanB, Bool.and_eq_true, decide_eq_true_eq] at hcb
            omega
          have e : ((c.toNat : Int) == 127) = true := by rw [this]; rfl
          rw [e]; rfl
    · have hcb : cleanB c = true := by simp [cleanB] <;> omega
      have e32 : decide ((c.toNat : Int) < 32) = false := decide_eq_false (by omega)
      have e127 : ((c.toNat : Int) == 127) = false := by simp <;> omega
      have e128 : decide ((c.toNat : Int) < 128) = false := decide_eq_false (by omega)
      by_cases h2 : 192 ≤ c.toNat ∧ c.toNat < 224
      · have hld : lead c = some (1, c.toNat - 192, 128) := by simp only [lead, if_neg h1, if_pos h2]
        obtain ⟨k, hk⟩ := go 1 (c.toNat - 192) 128 (by omega) (by omega) (by omega) hld hcb
        refine Goes.step ⟨k, ?_⟩
        have hw : IntKind.wrap .i64 ((c.toNat : Int) - 192) = ((c.toNat - 192 : Nat) : Int) := by rw [wrapI (by omega) (by omega)]; omega
        rw [r55_2a]
        simp only [d1, cond_true, hid, hwc, e128, cond_false, decide_eq_true (show (c.toNat : Int) ≥ 192 by omega), decide_eq_true (show (c.toNat : Int) < 224 by omega), e32, e127, hw]
        exact hk
      · by_cases h3 : 224 ≤ c.toNat ∧ c.toNat < 240
        · have hld : lead c = some (2, c.toNat - 224, 2048) := by simp only [lead, if_neg h1, if_neg h2, if_pos h3]
          obtain ⟨k, hk⟩ := go 2 (c.toNat - 224) 2048 (by omega) (by omega) (by omega) hld hcb
          refine Goes.step ⟨k, ?_⟩
          have hw : IntKind.wrap .i64 ((c.toNat : Int) - 224) = ((c.toNat - 224 : Nat) : Int) := by rw [wrapI (by omega) (by omega)]; omega
          rw [r55_2a]
          simp only [d1, cond_true, hid, hwc, e128, cond_false, decide_eq_true (show (c.toNat : Int) ≥ 192 by omega), decide_eq_false (show ¬ (c.toNat : Int) < 224 by omega), decide_eq_true (show (c.toNat : Int) ≥ 224 by omega), decide_eq_true (show (c.toNat : Int) < 240 by omega), e32, e127, hw]
          exact hk
        · by_cases h4 : 240 ≤ c.toNat ∧ c.toNat < 248
          · have hld : lead c = some (3, c.toNat - 240, 65536) := by simp only [lead, if_neg h1, if_neg h2, if_neg h3, if_pos h4]
            obtain ⟨k, hk⟩ := go 3 (c.toNat - 240) 65536 (by omega) (by omega) (by omega) hld hcb
            refine Goes.step ⟨k, ?_⟩
            have hw : IntKind.wrap .i64 ((c.toNat : Int) - 240) = ((c.toNat - 240 : Nat) : Int) := by rw [wrapI (by omega) (by omega)]; omega
            rw [r55_2a]
            simp only [d1, cond_true, hid, hwc, e128, cond_false, decide_eq_true (show (c.toNat : Int) ≥ 192 by omega), decide_eq_false (show ¬ (c.toNat : Int) < 224 by omega), decide_eq_true (show (c.toNat : Int) ≥ 224 by omega), decide_eq_false (show ¬ (c.toNat : Int) < 240 by omega), decide_eq_true (show (c.toNat : Int) ≥ 240 by omega), decide_eq_true (show (c.toNat : Int) < 248 by omega), e32, e127, hw]
            exact hk
          · have hld : lead c = none := by simp only [lead, if_neg h1, if_neg h2, if_neg h3, if_neg h4]
            refine Goes.step ⟨0, ?_⟩
            rw [r55_2a]
            simp only [d1, cond_true, hid, hwc, e128, cond_false, cleanGo, hld]
            by_cases g1 : (c.toNat : Int) ≥ 192
            · rw [decide_eq_true g1, decide_eq_false (show ¬ (c.toNat : Int) < 224 by omega), decide_eq_true (show (c.toNat : Int) ≥ 224 by omega), decide_eq_false (show ¬ (c.toNat : Int) < 240 by omega), decide_eq_true (show (c.toNat : Int) ≥ 240 by omega), decide_eq_false (show ¬ (c.toNat : Int) < 248 by omega)]; rfl
            · rw [decide_eq_false g1, decide_eq_false (show ¬ (c.toNat : Int) ≥ 224 by omega), decide_eq_false (show ¬ (c.toNat : Int) ≥ 240 by omega)]; rfl
theorem refClean_ret {call : Handle} (hc : CallsOK (Γ mx) call) (s : List UInt8) (hs : s.length ≤ 1073741824) : RetX (Γ mx) 44 [.s s] [] (.b (cleanV s)) [] := by
  obtain ⟨k, hk⟩ := refClean_goes call s hs s.length s [] 0 (Nat.le_refl _) rfl rfl
  refine ret_goes hP hZ hc (by kernel_rfl) ⟨k, ?_⟩
  rw [r55]
  have e : cleanV s = cleanGo s.length s := (clean_valid s.length s (Nat.le_refl _)).symm
  rw [e]
  exact hk
end Go.Proofs.YtjbemleloffafaaGreatDoor.V

/- Tags: what the machine over values makes of the functions: equations, written by program. -/
namespace Go.Proofs.YtjbemleloffafaaGreatDoor.V
open Go
set_option maxRecDepth 100000
set_option linter.unusedVariables false
set_option linter.unusedSimpArgs false
def cmpZ (p q : List UInt8) : Int := bif lessB p q then -1 else bif !(lessB p q || p == q) then 1 else 0
def ordZ (a b : D) : Int := cmpZ (nmT a) (nmT b)
def sameT (a b : List D) : Bool := (a.map fun t => (nmT t, vlT t)) == (b.map fun t => (nmT t, vlT t))
def srtC (l : List D) : Bool := decide (l.length ≤ 8) && l.all isT
def lenC (n : Int) : Bool := decide (0 ≤ n) && decide (n ≤ 8)
def blen (n : Int) : Int := bif n == 0 then 0 else bif n == 1 then 1 else bif decide (n ≤ 3) then 2 else bif decide (n ≤ 7) then 3 else 4
def tcA (s : List UInt8) : List UInt8 := (Lib.cut s [61]).1
def tcB (s : List UInt8) : List UInt8 := (Lib.cut s [61]).2.1
def tcF (s : List UInt8) : Bool := (Lib.cut s [61]).2.2
def spLen : List AV → Option (Bool × AV)
  | [.i .u64 n] => some (lenC n, .i .i64 (blen n))
  | _ => none
def spLL (u v : TypeId) (c : List D → List D → Bool) (f : List D → List D → AV) : List AV → Option (Bool × AV)
  | [.sl t _ x, .sl s _ y] => some (Nat.beq t u && (Nat.beq s v && c x y), f x y)
  | _ => none
def spCut : List AV → Option (Bool × AV)
  | [.s s, .s [61]] => some (s32 s, .tuple [.s (tcA s), .s (tcB s), .b (tcF s)])
  | _ => none
def spJ2 : List AV → Option (Bool × AV)
  | [.snil, .s p] => some (joinC [] p, .s (joinV [] p))
  | [.sl 9 _ l, .s p] => some (joinC l p, .s (joinV l p))
  | _ => none
def spSp38 : List AV → Option (Bool × AV)
  | [.s s, .s [38]] => some (s32 s, .sl 9 .ex (splitC 38 s))
  | _ => none
def spL1s (u : TypeId) (c : List D → Bool) (f : List D → AV) : List AV → Option (Bool × AV)
  | [.snil] => some (c [], f [])
  | [.sl t _ l] => some (Nat.beq t u && c l, f l)
  | _ => none
def xClone : List AV → Objs → Option (Bool × AV × Objs)
  | [.sl t _ []], [] => some (Nat.beq t 84, .sl 84 .cl [], [])
  | [.sl t _ (x :: r)], [] => some (Nat.beq t 84 && tC (x :: r), .ref 84 0, [some (.arr 84 (x :: r) false)])
  | _, _ => none
variable {mx : Int}
def H54 : Handle := runS [⟨54, dat (sp1 short fun p => .b (cleanV p))⟩]
theorem r54 (lab : Lab) (a1 : List UInt8) (a2 : List UInt8) : evF (Γ mx) H54 lab 82 [.d 84 (D.agg [D.str a1, D.str a2])] [] =
  bif !(a1 == ([] : List UInt8)) then (bif decide (((List.length a1 : Int)) ≤ 64) then (bif decide (((List.length a2 : Int)) ≤ 64) then (bif short a1 then (bif cleanV a1 then (bif short a2 then (some (.b (cleanV a2), [])) else none) else (some (.b false, []))) else none) else (some (.b false, []))) else (some (.b false, []))) else (some (.b false, [])) := by kernel_rfl
def H26 : Handle := runS [⟨82, dat (spD1 84 shT fun d => .b (goodT d))⟩]
theorem r26 (lab : Lab) (l : List D) : evF (Γ mx) H26 lab 55 [.sl 84 .any l] [] =
  bif decide (((l.length : Int)) > 8) then (some (.b false, [])) else (lab (todoAt (Γ mx) 55 4) ⟨[(0, .sl 84 .any l), (8, .sl 84 .any l), (9, .i .i64 ((l.length : Int))), (10, .i .i64 0)], []⟩) := by kernel_rfl
theorem r26_4a (lab : Lab) (l1 : List D) (l2 : List D) (n3 : Int) (n4 : Int) : evL (Γ mx) H26 lab 55 4 ⟨[(0, .sl 84 .any l1), (8, .sl 84 .any l2), (9, .i .i64 n3), (10, .i .i64 n4)], []⟩ =
  bif decide (n4 < n3) then (idx l2 n4 fun y5 => dAgg y5 fun y6 => lCons y6 fun a7 r8 => dStr a7 fun s9 => lCons r8 fun a10 r11 => dStr a10 fun s12 => lNil r11 (bif shT (D.agg [D.str s9, D.str s12]) then (bif !(goodT (D.agg [D.str s9, D.str s12])) then (some (.b false, [])) else (bif decide (n4 > 0) then (idx l1 (IntKind.wrap .i64 (n4 - 1)) fun y13 => dAgg y13 fun y14 => lGet y14 0 fun y15 => dStr y15 fun s16 => bif !lessB s16 s9 then (some (.b false, [])) else (lab (todoAt (Γ mx) 55 4) ⟨[(0, .sl 84 .any l1), (8, .sl 84 .any l2), (9, .i .i64 n3), (10, .i .i64 (IntKind.wrap .i64 (n4 + 1)))], []⟩)) else (lab (todoAt (Γ mx) 55 4) ⟨[(0, .sl 84 .any l1), (8, .sl 84 .any l2), (9, .i .i64 n3), (10, .i .i64 (IntKind.wrap .i64 (n4 + 1)))], []⟩))) else none)) else (some (.b true, [])) := by kernel_rfl
def H27 : Handle := runS [⟨44, dat (sp1 short fun p => .b (cleanV p))⟩]
theorem r27 (lab : Lab) (l : List D) : evF (Γ mx) H27 lab 45 [.sl 84 .any l] [] =
  bif decide (((l.length : Int)) > 8) then (some (.b false, [])) else (lab (todoAt (Γ mx) 45 4) ⟨[(0, .sl 84 .any l), (3, .i .i64 0)], []⟩) := by kernel_rfl
theorem r27_4a (lab : Lab) (l1 : List D) (n2 : Int) : evL (Γ mx) H27 lab 45 4 ⟨[(0, .sl 84 .any l1), (3, .i .i64 n2)], []⟩ =
  bif decide (n2 < ((l1.length : Int))) then (idx l1 n2 fun y3 => dAgg y3 fun y4 => lGet y4 0 fun y5 => dStr y5 fun s6 => bif decide (((List.length s6 : Int)) < 1) then (some (.b false, [])) else (idx l1 n2 fun y7 => dAgg y7 fun y8 => lGet y8 0 fun y9 => dStr y9 fun s10 => bif decide (((List.length s10 : Int)) > 64) then (some (.b false, [])) else (idx l1 n2 fun y11 => dAgg y11 fun y12 => lGet y12 1 fun y13 => dStr y13 fun s14 => bif decide (((List.length s14 : Int)) > 64) then (some (.b false, [])) else (idx l1 n2 fun y15 => dAgg y15 fun y16 => lGet y16 0 fun y17 => dStr y17 fun s18 => bif short s18 then (bif !(cleanV s18) then (some (.b false, [])) else (idx l1 n2 fun y19 => dAgg y19 fun y20 => lGet y20 1 fun y21 => dStr y21 fun s22 => bif short s22 then (bif !(cleanV s22) then (some (.b false, [])) else (bif decide (n2 > 0) then (idx l1 n2 fun y23 => dAgg y23 fun y24 => lGet y24 0 fun y25 => dStr y25 fun s26 => idx l1 (IntKind.wrap .i64 (n2 - 1)) fun y27 => dAgg y27 fun y28 => lGet y28 0 fun y29 => dStr y29 fun s30 => bif lessB s26 s30 || s26 == s30 then (some (.b false, [])) else (lab (todoAt (Γ mx) 45 4) ⟨[(0, .sl 84 .any l1), (3, .i .i64 (IntKind.wrap .i64 (n2 + 1)))], []⟩)) else (lab (todoAt (Γ mx) 45 4) ⟨[(0, .sl 84 .any l1), (3, .i .i64 (IntKind.wrap .i64 (n2 + 1)))], []⟩))) else none)) else none)))) else (some (.b true, [])) := by kernel_rfl
theorem r29 (call : Handle) (lab : Lab) (l : List D) (n : List UInt8) : evF (Γ mx) call lab 80 [.sl 84 .any l, .s n] [] =
  lab (todoAt (Γ mx) 80 2) ⟨[(1, .s n), (8, .sl 84 .any l), (9, .i .i64 ((l.length : Int))), (10, .i .i64 0)], []⟩ := by kernel_rfl
theorem r29_2a (call : Handle) (lab : Lab) (s1 : List UInt8) (l2 : List D) (n3 : Int) (n4 : Int) : evL (Γ mx) call lab 80 2 ⟨[(1, .s s1), (8, .sl 84 .any l2), (9, .i .i64 n3), (10, .i .i64 n4)], []⟩ =
  bif decide (n4 < n3) then (idx l2 n4 fun y5 => dAgg y5 fun y6 => lCons y6 fun a7 r8 => dStr a7 fun s9 => lCons r8 fun a10 r11 => dStr a10 fun s12 => lNil r11 (bif s9 == s1 then (some (.tuple [.s s12, .b true], [])) else (lab (todoAt (Γ mx) 80 2) ⟨[(1, .s s1), (8, .sl 84 .any l2), (9, .i .i64 n3), (10, .i .i64 (IntKind.wrap .i64 (n4 + 1)))], []⟩))) else (some (.tuple [.s ([] : List UInt8), .b false], [])) := by kernel_rfl
def H30 : Handle := runS [⟨80, dat (spLS 84 (fun l _ => tC l) fun l n => .tuple [.s (getS l n), .b (getB l n)])⟩]
theorem r30 (lab : Lab) (a : List D) (b : List D) : evF (Γ mx) H30 lab 53 [.sl 84 .any a, .sl 84 .any b] [] =
  lab (todoAt (Γ mx) 53 2) ⟨[(1, .sl 84 .any b), (9, .sl 84 .any a), (10, .i .i64 ((a.length : Int))), (11, .i .i64 0)], []⟩ := by kernel_rfl
theorem r30_2a (lab : Lab) (l1 : List D) (l2 : List D) (n3 : Int) (n4 : Int) : evL (Γ mx) H30 lab 53 2 ⟨[(1, .sl 84 .any l1), (9, .sl 84 .any l2), (10, .i .i64 n3), (11, .i .i64 n4)], []⟩ =
  bif decide (n4 < n3) then (idx l2 n4 fun y5 => dAgg y5 fun y6 => lCons y6 fun a7 r8 => dStr a7 fun s9 => lCons r8 fun a10 r11 => dStr a10 fun s12 => lNil r11 (bif tC l1 then (bif !(getB l1 s9) then (some (.b false, [])) else (bif !((getS l1 s9) == s12) then (some (.b false, [])) else (lab (todoAt (Γ mx) 53 2) ⟨[(1, .sl 84 .any l1), (9, .sl 84 .any l2), (10, .i .i64 n3), (11, .i .i64 (IntKind.wrap .i64 (n4 + 1)))], []⟩))) else none)) else (some (.b true, [])) := by kernel_rfl
theorem r25 (call : Handle) (lab : Lab) (a : List D) (b : List D) : evF (Γ mx) call lab 40 [.sl 84 .any a, .sl 84 .any b] [] =
  bif ((a.length : Int)) != ((b.length : Int)) then (some (.b false, [])) else (lab (todoAt (Γ mx) 40 4) ⟨[(0, .sl 84 .any a), (1, .sl 84 .any b), (5, .i .i64 0)], []⟩) := by kernel_rfl
theorem r25_4a (call : Handle) (lab : Lab) (l1 : List D) (l2 : List D) (n3 : Int) : evL (Γ mx) call lab 40 4 ⟨[(0, .sl 84 .any l1), (1, .sl 84 .any l2), (5, .i .i64 n3)], []⟩ =
  bif decide (n3 < ((l1.length : Int))) then (idx l1 n3 fun y4 => dAgg y4 fun y5 => lGet y5 0 fun y6 => dStr y6 fun s7 => idx l2 n3 fun y8 => dAgg y8 fun y9 => lGet y9 0 fun y10 => dStr y10 fun s11 => bif !(s7 == s11) then (some (.b false, [])) else (idx l1 n3 fun y12 => dAgg y12 fun y13 => lGet y13 1 fun y14 => dStr y14 fun s15 => idx l2 n3 fun y16 => dAgg y16 fun y17 => lGet y17 1 fun y18 => dStr y18 fun s19 => bif !(s15 == s19) then (some (.b false, [])) else (lab (todoAt (Γ mx) 40 4) ⟨[(0, .sl 84 .any l1), (1, .sl 84 .any l2), (5, .i .i64 (IntKind.wrap .i64 (n3 + 1)))], []⟩))) else (some (.b true, [])) := by kernel_rfl
theorem r50 (call : Handle) (lab : Lab) (x : D) (r : List D) : evF (Γ mx) call lab 122 [.sl 84 .any ((x :: r))] [] =
  bif roomB (0 + ((x :: r)).length) 32 then (some (.ref 84 0, [some (.arr 84 ((x :: r)) false)])) else none := by kernel_rfl
theorem r53 (call : Handle) (lab : Lab) (l : List D) : evF (Γ mx) call lab 121 [.sl 84 .any l] [] =
  bif decide ((0:Int) ≤ ((l.length : Int))) && decide (((l.length : Int)) ≤ (l.length : Int)) then (bif decide ((0:Int) ≤ ((l.length : Int))) && decide (((l.length : Int)) ≤ (Int.toNat ((l.length : Int)) : Int)) then (bif Nat.beq (Int.toNat ((l.length : Int))) (Int.toNat ((l.length : Int))) then (some (.sl 84 .cl (List.take ((Int.toNat ((l.length : Int))) - 0) (List.drop 0 l)), [])) else none) else none) else none := by kernel_rfl
theorem nlr50 (call : Handle) (lab : Lab) : evF (Γ mx) call lab 122 [.sl 84 .nl []] [] =
  some (.snil, []) := by kernel_rfl
theorem nnr50 (call : Handle) (lab : Lab) : evF (Γ mx) call lab 122 [.sl 84 .nn []] [] =
  some (.sl 84 .ex [], []) := by kernel_rfl
end Go.Proofs.YtjbemleloffafaaGreatDoor.V

/- Tags: what the machine over values makes of the functions, part two: equations, written by program. -/
namespace Go.Proofs.YtjbemleloffafaaGreatDoor.V
open Go
set_option maxRecDepth 100000
set_option linter.unusedVariables false
set_option linter.unusedSimpArgs false
variable {mx : Int}
def H23 : Handle := runS [⟨45, dat (spL1s 84 tC fun l => .b (tsB l))⟩]
def H32 : Handle := runS [⟨55, dat (spL1s 84 tC fun l => .b (tsB l))⟩, ⟨24, dat (sp1 short fun p => .s (escV p))⟩, ⟨26, dat spJ2⟩]
theorem r32 (lab : Lab) (l : List D) : evF (Γ mx) H32 lab 23 [.sl 84 .any l] [] =
  bif tC l then (bif !(tsB l) then (some (.tuple [.s ([] : List UInt8), .i .i64 2], [])) else (lab (todoAt (Γ mx) 23 5) ⟨[(4, .snil), (10, .sl 84 .any l), (11, .i .i64 ((l.length : Int))), (12, .i .i64 0)], []⟩)) else none := by kernel_rfl
theorem r32_5a (lab : Lab) (l1 : List D) (n2 : Int) (n3 : Int) : evL (Γ mx) H32 lab 23 5 ⟨[(4, .snil), (10, .sl 84 .any l1), (11, .i .i64 n2), (12, .i .i64 n3)], []⟩ =
  bif decide (n3 < n2) then (idx l1 n3 fun y4 => dAgg y4 fun y5 => lCons y5 fun a6 r7 => dStr a6 fun s8 => lCons r7 fun a9 r10 => dStr a9 fun s11 => lNil r10 (bif short s8 then (bif decide (List.length (escV s8) + List.length ([61] : List UInt8) ≤ maxStr) then (bif short s11 then (bif decide (List.length ((escV s8) ++ ([61] : List UInt8)) + List.length (escV s11) ≤ maxStr) then (lab (todoAt (Γ mx) 23 5) ⟨[(4, .ref 9 0), (10, .sl 84 .any l1), (11, .i .i64 n2), (12, .i .i64 (IntKind.wrap .i64 (n3 + 1)))], [some (.arr 9 [D.str (((escV s8) ++ ([61] : List UInt8)) ++ (escV s11))] false)]⟩) else none) else none) else none) else none)) else (bif joinC [] ([38] : List UInt8) then (some (.tuple [.s (joinV [] ([38] : List UInt8)), .i .i64 0], [])) else none) := by kernel_rfl
theorem r32_5b (lab : Lab) (l1 : List D) (n2 : Int) (n3 : Int) (l4 : List D) : evL (Γ mx) H32 lab 23 5 ⟨[(4, .ref 9 0), (10, .sl 84 .any l1), (11, .i .i64 n2), (12, .i .i64 n3)], [some (.arr 9 l4 false)]⟩ =
  bif decide (n3 < n2) then (idx l1 n3 fun y5 => dAgg y5 fun y6 => lCons y6 fun a7 r8 => dStr a7 fun s9 => lCons r8 fun a10 r11 => dStr a10 fun s12 => lNil r11 (bif short s9 then (bif decide (List.length (escV s9) + List.length ([61] : List UInt8) ≤ maxStr) then (bif short s12 then (bif decide (List.length ((escV s9) ++ ([61] : List UInt8)) + List.length (escV s12) ≤ maxStr) then (bif roomB (l4.length + 1) 16 then (lab (todoAt (Γ mx) 23 5) ⟨[(4, .ref 9 0), (10, .sl 84 .any l1), (11, .i .i64 n2), (12, .i .i64 (IntKind.wrap .i64 (n3 + 1)))], [some (.arr 9 (l4 ++ [D.str (((escV s9) ++ ([61] : List UInt8)) ++ (escV s12))]) false)]⟩) else none) else none) else none) else none) else none)) else (bif joinC l4 ([38] : List UInt8) then (some (.tuple [.s (joinV l4 ([38] : List UInt8)), .i .i64 0], [])) else none) := by kernel_rfl
def H33 : Handle := runS [⟨45, dat (spL1s 84 tC fun l => .b (tsB l))⟩, ⟨28, dat (sp1 short fun p => .s (escV p))⟩]
theorem r33 (lab : Lab) (l : List D) : evF (Γ mx) H33 lab 27 [.sl 84 .any l] [] =
  bif tC l then (bif !(tsB l) then (some (.tuple [.s ([] : List UInt8), .i .i64 2], [])) else (lab (todoAt (Γ mx) 27 5) ⟨[(0, .sl 84 .any l), (4, .s ([] : List UInt8)), (5, .i .i64 0)], []⟩)) else none := by kernel_rfl
theorem r33_5a (lab : Lab) (l1 : List D) (s2 : List UInt8) (n3 : Int) : evL (Γ mx) H33 lab 27 5 ⟨[(0, .sl 84 .any l1), (4, .s s2), (5, .i .i64 n3)], []⟩ =
  bif decide (n3 < ((l1.length : Int))) then (bif decide (n3 > 0) then (bif decide (List.length s2 + List.length ([38] : List UInt8) ≤ maxStr) then (idx l1 n3 fun y4 => dAgg y4 fun y5 => lGet y5 0 fun y6 => dStr y6 fun s7 => bif short s7 then (bif decide (List.length (escV s7) + List.length ([61] : List UInt8) ≤ maxStr) then (idx l1 n3 fun y8 => dAgg y8 fun y9 => lGet y9 1 fun y10 => dStr y10 fun s11 => bif short s11 then (bif decide (List.length ((escV s7) ++ ([61] : List UInt8)) + List.length (escV s11) ≤ maxStr) then (bif decide (List.length (s2 ++ ([38] : List UInt8)) + List.length (((escV s7) ++ ([61] : List UInt8)) ++ (escV s11)) ≤ maxStr) then (lab (todoAt (Γ mx) 27 5) ⟨[(0, .sl 84 .any l1), (4, .s ((s2 ++ ([38] : List UInt8)) ++ (((escV s7) ++ ([61] : List UInt8)) ++ (escV s11)))), (5, .i .i64 (IntKind.wrap .i64 (n3 + 1)))], []⟩) else none) else none) else none) else none) else none) else none) else (idx l1 n3 fun y12 => dAgg y12 fun y13 => lGet y13 0 fun y14 => dStr y14 fun s15 => bif short s15 then (bif decide (List.length (escV s15) + List.length ([61] : List UInt8) ≤ maxStr) then (idx l1 n3 fun y16 => dAgg y16 fun y17 => lGet y17 1 fun y18 => dStr y18 fun s19 => bif short s19 then (bif decide (List.length ((escV s15) ++ ([61] : List UInt8)) + List.length (escV s19) ≤ maxStr) then (bif decide (List.length s2 + List.length (((escV s15) ++ ([61] : List UInt8)) ++ (escV s19)) ≤ maxStr) then (lab (todoAt (Γ mx) 27 5) ⟨[(0, .sl 84 .any l1), (4, .s (s2 ++ (((escV s15) ++ ([61] : List UInt8)) ++ (escV s19)))), (5, .i .i64 (IntKind.wrap .i64 (n3 + 1)))], []⟩) else none) else none) else none) else none) else none)) else (some (.tuple [.s s2, .i .i64 0], [])) := by kernel_rfl
def H34 : Handle := runS [⟨30, dat spSp38⟩, ⟨67, dat spCut⟩, ⟨32, dat (sp1 short fun p => .tuple [.s (unS p), .i .i64 (unE p)])⟩, ⟨55, dat (spL1s 84 tC fun l => .b (tsB l))⟩]
theorem r34 (lab : Lab) (s : List UInt8) : evF (Γ mx) H34 lab 34 [.s s] [] =
  bif s == ([] : List UInt8) then (some (.tuple [.snil, .i .i64 0], [])) else (bif s32 s then (lab (todoAt (Γ mx) 34 5) ⟨[(4, .snil), (17, .sl 9 .ex (splitC 38 s)), (18, .i .i64 (((splitC 38 s).length : Int))), (19, .i .i64 0)], []⟩) else none) := by kernel_rfl
theorem r34_5a (lab : Lab) (l1 : List D) (n2 : Int) (n3 : Int) : evL (Γ mx) H34 lab 34 5 ⟨[(4, .snil), (17, .sl 9 .ex l1), (18, .i .i64 n2), (19, .i .i64 n3)], []⟩ =
  bif decide (n3 < n2) then (idx l1 n3 fun y4 => dStr y4 fun s5 => bif s32 s5 then (bif short (tcA s5) then (bif short (tcB s5) then (bif !(tcF s5) then (some (.tuple [.snil, .i .i64 5], [])) else (bif (unE (tcA s5)) != 0 then (some (.tuple [.snil, .i .i64 5], [])) else (bif (unE (tcB s5)) != 0 then (some (.tuple [.snil, .i .i64 5], [])) else (lab (todoAt (Γ mx) 34 5) ⟨[(4, .ref 84 0), (17, .sl 9 .ex l1), (18, .i .i64 n2), (19, .i .i64 (IntKind.wrap .i64 (n3 + 1)))], [some (.arr 84 [D.agg [D.str (unS (tcA s5)), D.str (unS (tcB s5))]] false)]⟩)))) else none) else none) else none) else (bif tC [] then (bif !(tsB []) then (some (.tuple [.snil, .i .i64 2], [])) else (some (.tuple [.snil, .i .i64 0], []))) else none) := by kernel_rfl
theorem r34_5b (lab : Lab) (l1 : List D) (n2 : Int) (n3 : Int) (l4 : List D) : evL (Γ mx) H34 lab 34 5 ⟨[(4, .ref 84 0), (17, .sl 9 .ex l1), (18, .i .i64 n2), (19, .i .i64 n3)], [some (.arr 84 l4 false)]⟩ =
  bif decide (n3 < n2) then (idx l1 n3 fun y5 => dStr y5 fun s6 => bif s32 s6 then (bif short (tcA s6) then (bif short (tcB s6) then (bif !(tcF s6) then (some (.tuple [.snil, .i .i64 5], [])) else (bif (unE (tcA s6)) != 0 then (some (.tuple [.snil, .i .i64 5], [])) else (bif (unE (tcB s6)) != 0 then (some (.tuple [.snil, .i .i64 5], [])) else (bif roomB (l4.length + 1) 32 then (lab (todoAt (Γ mx) 34 5) ⟨[(4, .ref 84 0), (17, .sl 9 .ex l1), (18, .i .i64 n2), (19, .i .i64 (IntKind.wrap .i64 (n3 + 1)))], [some (.arr 84 (l4 ++ [D.agg [D.str (unS (tcA s6)), D.str (unS (tcB s6))]]) false)]⟩) else none)))) else none) else none) else none) else (bif tC l4 then (bif !(tsB l4) then (some (.tuple [.snil, .i .i64 2], [])) else (some (.tuple [.sl 84 .any l4, .i .i64 0], []))) else none) := by kernel_rfl
def H35 : Handle := runS [⟨37, dat (sp1 short fun p => .tuple [.s (unS p), .i .i64 (unE p)])⟩, ⟨45, dat (spL1s 84 tC fun l => .b (tsB l))⟩]
theorem r35 (lab : Lab) (s : List UInt8) : evF (Γ mx) H35 lab 39 [.s s] [] =
  bif s == ([] : List UInt8) then (some (.tuple [.sl 84 .ex [], .i .i64 0], [])) else (lab (todoAt (Γ mx) 39 6) ⟨[(0, .s s), (4, .sl 84 .ex []), (5, .i .i64 0), (6, .i .i64 0)], []⟩) := by kernel_rfl
theorem r35_6a (lab : Lab) (s1 : List UInt8) (l2 : List D) (n3 : Int) (n4 : Int) : evL (Γ mx) H35 lab 39 6 ⟨[(0, .s s1), (4, .sl 84 .ex l2), (5, .i .i64 n3), (6, .i .i64 n4)], []⟩ =
  bif decide (n4 ≤ ((List.length s1 : Int))) then (bif decide (n4 < ((List.length s1 : Int))) then (idx s1 n4 fun c5 => bif ((c5.toNat : Int)) != 38 then (lab (todoAt (Γ mx) 39 6) ⟨[(0, .s s1), (4, .sl 84 .ex l2), (5, .i .i64 n3), (6, .i .i64 (IntKind.wrap .i64 (n4 + 1)))], []⟩) else (bif decide ((0:Int) ≤ n4) && decide (n4 ≤ (List.length s1 : Int)) then (bif decide ((0:Int) ≤ n3) && decide (n3 ≤ (Int.toNat n4 : Int)) then (lab (todoAt (Γ mx) 39 13) ⟨[(0, .s s1), (4, .sl 84 .ex l2), (5, .i .i64 (IntKind.wrap .i64 (n4 + 1))), (6, .i .i64 n4), (7, .s (List.take ((Int.toNat n4) - (Int.toNat n3)) (List.drop (Int.toNat n3) s1))), (8, .i .i64 0), (9, .i .i64 0), (10, .i .i64 0)], []⟩) else none) else none)) else (bif decide ((0:Int) ≤ n4) && decide (n4 ≤ (List.length s1 : Int)) then (bif decide ((0:Int) ≤ n3) && decide (n3 ≤ (Int.toNat n4 : Int)) then (lab (todoAt (Γ mx) 39 13) ⟨[(0, .s s1), (4, .sl 84 .ex l2), (5, .i .i64 (IntKind.wrap .i64 (n4 + 1))), (6, .i .i64 n4), (7, .s (List.take ((Int.toNat n4) - (Int.toNat n3)) (List.drop (Int.toNat n3) s1))), (8, .i .i64 0), (9, .i .i64 0), (10, .i .i64 0)], []⟩) else none) else none)) else (bif tC l2 then (bif !(tsB l2) then (some (.tuple [.snil, .i .i64 2], [])) else (some (.tuple [.sl 84 .ex l2, .i .i64 0], []))) else none) := by kernel_rfl
theorem r35_13a (lab : Lab) (s1 : List UInt8) (l2 : List D) (n3 : Int) (n4 : Int) (s5 : List UInt8) (n6 : Int) (n7 : Int) (n8 : Int) : evL (Γ mx) H35 lab 39 13 ⟨[(0, .s s1), (4, .sl 84 .ex l2), (5, .i .i64 n3), (6, .i .i64 n4), (7, .s s5), (8, .i .i64 n6), (9, .i .i64 n7), (10, .i .i64 n8)], []⟩ =
  bif decide (n8 < ((List.length s5 : Int))) then (idx s5 n8 fun c9 => bif ((c9.toNat : Int)) == 61 then (lab (todoAt (Γ mx) 39 13) ⟨[(0, .s s1), (4, .sl 84 .ex l2), (5, .i .i64 n3), (6, .i .i64 n4), (7, .s s5), (8, .i .i64 n8), (9, .i .i64 (IntKind.wrap .i64 (n7 + 1))), (10, .i .i64 (IntKind.wrap .i64 (n8 + 1)))], []⟩) else (lab (todoAt (Γ mx) 39 13) ⟨[(0, .s s1), (4, .sl 84 .ex l2), (5, .i .i64 n3), (6, .i .i64 n4), (7, .s s5), (8, .i .i64 n6), (9, .i .i64 n7), (10, .i .i64 (IntKind.wrap .i64 (n8 + 1)))], []⟩)) else (bif n7 != 1 then (some (.tuple [.snil, .i .i64 5], [])) else (bif decide ((0:Int) ≤ n6) && decide (n6 ≤ (List.length s5 : Int)) then (bif short (List.take ((Int.toNat n6) - 0) (List.drop 0 s5)) then (bif decide ((0:Int) ≤ (IntKind.wrap .i64 (n6 + 1))) && decide ((IntKind.wrap .i64 (n6 + 1)) ≤ (List.length s5 : Int)) then (bif short (List.take ((List.length s5) - (Int.toNat (IntKind.wrap .i64 (n6 + 1)))) (List.drop (Int.toNat (IntKind.wrap .i64 (n6 + 1))) s5)) then (bif (unE (List.take ((Int.toNat n6) - 0) (List.drop 0 s5))) != 0 then (some (.tuple [.snil, .i .i64 5], [])) else (bif (unE (List.take ((List.length s5) - (Int.toNat (IntKind.wrap .i64 (n6 + 1)))) (List.drop (Int.toNat (IntKind.wrap .i64 (n6 + 1))) s5))) != 0 then (some (.tuple [.snil, .i .i64 5], [])) else (bif roomB (l2.length + 1) 32 then (lab (todoAt (Γ mx) 39 6) ⟨[(0, .s s1), (4, .ref 84 0), (5, .i .i64 n3), (6, .i .i64 (IntKind.wrap .i64 (n4 + 1)))], [some (.arr 84 (l2 ++ [D.agg [D.str (unS (List.take ((Int.toNat n6) - 0) (List.drop 0 s5))), D.str (unS (List.take ((List.length s5) - (Int.toNat (IntKind.wrap .i64 (n6 + 1)))) (List.drop (Int.toNat (IntKind.wrap .i64 (n6 + 1))) s5)))]]) false)]⟩) else none))) else none) else none) else none) else none)) := by kernel_rfl
theorem r35_6b (lab : Lab) (s1 : List UInt8) (n2 : Int) (n3 : Int) (l4 : List D) : evL (Γ mx) H35 lab 39 6 ⟨[(0, .s s1), (4, .ref 84 0), (5, .i .i64 n2), (6, .i .i64 n3)], [some (.arr 84 l4 false)]⟩ =
  bif decide (n3 ≤ ((List.length s1 : Int))) then (bif decide (n3 < ((List.length s1 : Int))) then (idx s1 n3 fun c5 => bif ((c5.toNat : Int)) != 38 then (lab (todoAt (Γ mx) 39 6) ⟨[(0, .s s1), (4, .ref 84 0), (5, .i .i64 n2), (6, .i .i64 (IntKind.wrap .i64 (n3 + 1)))], [some (.arr 84 l4 false)]⟩) else (bif decide ((0:Int) ≤ n3) && decide (n3 ≤ (List.length s1 : Int)) then (bif decide ((0:Int) ≤ n2) && decide (n2 ≤ (Int.toNat n3 : Int)) then (lab (todoAt (Γ mx) 39 13) ⟨[(0, .s s1), (4, .ref 84 0), (5, .i .i64 (IntKind.wrap .i64 (n3 + 1))), (6, .i .i64 n3), (7, .s (List.take ((Int.toNat n3) - (Int.toNat n2)) (List.drop (Int.toNat n2) s1))), (8, .i .i64 0), (9, .i .i64 0), (10, .i .i64 0)], [some (.arr 84 l4 false)]⟩) else none) else none)) else (bif decide ((0:Int) ≤ n3) && decide (n3 ≤ (List.length s1 : Int)) then (bif decide ((0:Int) ≤ n2) && decide (n2 ≤ (Int.toNat n3 : Int)) then (lab (todoAt (Γ mx) 39 13) ⟨[(0, .s s1), (4, .ref 84 0), (5, .i .i64 (IntKind.wrap .i64 (n3 + 1))), (6, .i .i64 n3), (7, .s (List.take ((Int.toNat n3) - (Int.toNat n2)) (List.drop (Int.toNat n2) s1))), (8, .i .i64 0), (9, .i .i64 0), (10, .i .i64 0)], [some (.arr 84 l4 false)]⟩) else none) else none)) else (bif tC l4 then (bif !(tsB l4) then (some (.tuple [.snil, .i .i64 2], [])) else (some (.tuple [.sl 84 .any l4, .i .i64 0], []))) else none) := by kernel_rfl
theorem r35_13b (lab : Lab) (s1 : List UInt8) (n2 : Int) (n3 : Int) (s4 : List UInt8) (n5 : Int) (n6 : Int) (n7 : Int) (l8 : List D) : evL (Γ mx) H35 lab 39 13 ⟨[(0, .s s1), (4, .ref 84 0), (5, .i .i64 n2), (6, .i .i64 n3), (7, .s s4), (8, .i .i64 n5), (9, .i .i64 n6), (10, .i .i64 n7)], [some (.arr 84 l8 false)]⟩ =
  bif decide (n7 < ((List.length s4 : Int))) then (idx s4 n7 fun c9 => bif ((c9.toNat : Int)) == 61 then (lab (todoAt (Γ mx) 39 13) ⟨[(0, .s s1), (4, .ref 84 0), (5, .i .i64 n2), (6, .i .i64 n3), (7, .s s4), (8, .i .i64 n7), (9, .i .i64 (IntKind.wrap .i64 (n6 + 1))), (10, .i .i64 (IntKind.wrap .i64 (n7 + 1)))], [some (.arr 84 l8 false)]⟩) else (lab (todoAt (Γ mx) 39 13) ⟨[(0, .s s1), (4, .ref 84 0), (5, .i .i64 n2), (6, .i .i64 n3), (7, .s s4), (8, .i .i64 n5), (9, .i .i64 n6), (10, .i .i64 (IntKind.wrap .i64 (n7 + 1)))], [some (.arr 84 l8 false)]⟩)) else (bif n6 != 1 then (some (.tuple [.snil, .i .i64 5], [])) else (bif decide ((0:Int) ≤ n5) && decide (n5 ≤ (List.length s4 : Int)) then (bif short (List.take ((Int.toNat n5) - 0) (List.drop 0 s4)) then (bif decide ((0:Int) ≤ (IntKind.wrap .i64 (n5 + 1))) && decide ((IntKind.wrap .i64 (n5 + 1)) ≤ (List.length s4 : Int)) then (bif short (List.take ((List.length s4) - (Int.toNat (IntKind.wrap .i64 (n5 + 1)))) (List.drop (Int.toNat (IntKind.wrap .i64 (n5 + 1))) s4)) then (bif (unE (List.take ((Int.toNat n5) - 0) (List.drop 0 s4))) != 0 then (some (.tuple [.snil, .i .i64 5], [])) else (bif (unE (List.take ((List.length s4) - (Int.toNat (IntKind.wrap .i64 (n5 + 1)))) (List.drop (Int.toNat (IntKind.wrap .i64 (n5 + 1))) s4))) != 0 then (some (.tuple [.snil, .i .i64 5], [])) else (bif roomB (l8.length + 1) 32 then (lab (todoAt (Γ mx) 39 6) ⟨[(0, .s s1), (4, .ref 84 0), (5, .i .i64 n2), (6, .i .i64 (IntKind.wrap .i64 (n3 + 1)))], [some (.arr 84 (l8 ++ [D.agg [D.str (unS (List.take ((Int.toNat n5) - 0) (List.drop 0 s4))), D.str (unS (List.take ((List.length s4) - (Int.toNat (IntKind.wrap .i64 (n5 + 1)))) (List.drop (Int.toNat (IntKind.wrap .i64 (n5 + 1))) s4)))]]) false)]⟩) else none))) else none) else none) else none) else none)) := by kernel_rfl
end Go.Proofs.YtjbemleloffafaaGreatDoor.V

/- Tags: contracts: compare, sort, clone, clip, sound, get, within, same. -/
namespace Go.Proofs.YtjbemleloffafaaGreatDoor.V
open Go
set_option maxRecDepth 100000
set_option linter.unusedVariables false
set_option linter.unusedSimpArgs false
section
variable {Γ : Ctx} {g : FuncId}
theorem RetX.args {args args' : List AV} {obs obs' : Objs} {r : AV} (h : RetX Γ g args obs r obs') (k : WkL Γ.P args' args) : RetX Γ g args' obs r obs' := fun w S σ X vals h0 h1 h2 => h w S σ X vals h0 h1 (k.rep h2)
theorem spL1s_ok {u : TypeId} {c : List D → Bool} {f : List D → AV} (h : ∀ l, c l = true → RetX Γ g [.sl u .any l] [] (f l) []) : SpecOK Γ ⟨g, dat (spL1s u c f)⟩ := dat_ok fun args r hr => by
  unfold spL1s at hr
  split at hr
  · simp only [Option.some.injEq, Prod.mk.injEq] at hr
    obtain ⟨h1, rfl⟩ := hr
    exact (h _ h1).args (.cons (WkA.nil u) .nil)
  · simp only [Option.some.injEq, Prod.mk.injEq, Bool.and_eq_true] at hr
    obtain ⟨⟨h1, h2⟩, rfl⟩ := hr
    obtain rfl := beq_id h1
    exact (h _ h2).anyc
  · exact absurd hr (by simp)
theorem spLL_ok {u v : TypeId} {c : List D → List D → Bool} {f : List D → List D → AV} (h : ∀ x y, c x y = true → RetX Γ g [.sl u .any x, .sl v .any y] [] (f x y) []) : SpecOK Γ ⟨g, dat (spLL u v c f)⟩ := dat_ok fun args r hr => by
  unfold spLL at hr
  split at hr
  · simp only [Option.some.injEq, Prod.mk.injEq, Bool.and_eq_true] at hr
    obtain ⟨⟨h1, h2, h3⟩, rfl⟩ := hr
    obtain rfl := beq_id h1
    obtain rfl := beq_id h2
    exact (h _ _ h3).args (.cons (WkA.sl _ _ _) (.cons (WkA.sl _ _ _) .nil))
  · exact absurd hr (by simp)
end
variable {mx : Int}
theorem tC_eq {l : List D} (h : tC l = true) : l.length ≤ 8388608 ∧ l.all shT = true := by simpa [tC] using h
theorem shT_is {d : D} (h : shT d = true) : isT d = true := by unfold shT at h; simp only [Bool.and_eq_true] at h; exact h.1
theorem shT_ex {d : D} (h : shT d = true) : ∃ a b, d = .agg [.str a, .str b] ∧ short a = true ∧ short b = true := by
  obtain ⟨a, b, rfl⟩ := isT_ex (shT_is h)
  unfold shT at h
  simp only [Bool.and_eq_true] at h
  exact ⟨a, b, rfl, h.2.1, h.2.2⟩
theorem sh_all {l : List D} (h : l.all shT = true) : l.all isT = true := List.all_eq_true.2 fun d hd => shT_is (List.all_eq_true.1 h d hd)
theorem ord_lt (a b : D) : decide (ordZ a b < 0) = ltT a b := by
  unfold ordZ cmpZ ltT
  cases lessB (nmT a) (nmT b) with
  | true => rfl
  | false =>
    rw [cond_false]
    cases (nmT a == nmT b) <;> rfl
theorem c82 (p : List UInt8) (h : short p = true) : RetX (Γ mx) 54 [.s p] [] (.b (cleanV p)) [] := clean_ret p (by have := short_le h; omega)
theorem c55 (p : List UInt8) (h : short p = true) : RetX (Γ mx) 44 [.s p] [] (.b (cleanV p)) [] := refClean_ret none_ok p (by have := short_le h; omega)
theorem h54_ok : CallsOK (Γ mx) H54 := specs_ok (.cons (sp1_ok c82) .nil)
theorem i64_le (n : Nat) (k : Nat) : decide ((n : Int) ≤ (k : Int)) = decide (n ≤ k) := decide_eq_decide.2 (by omega)
theorem c54 (d : D) (h : shT d = true) : RetX (Γ mx) 82 [.d 84 d] [] (.b (goodT d)) [] := by
  obtain ⟨a, b, rfl, h1, h2⟩ := shT_ex h
  refine ret_goes (Γ := Γ mx) hP hZ h54_ok (by kernel_rfl) ⟨0, ?_⟩
  have e : goodT (.agg [.str a, .str b]) = (!(a == []) && decide (a.length ≤ 64) && decide (b.length ≤ 64) && (cleanV a && cleanV b)) := rfl
  rw [r54, e, show decide ((a.length : Int) ≤ 64) = decide (a.length ≤ 64) from i64_le _ 64, show decide ((b.length : Int) ≤ 64) = decide (b.length ≤ 64) from i64_le _ 64, h1, h2]
  cases (a == []) <;> cases decide (a.length ≤ 64) <;> cases decide (b.length ≤ 64) <;> cases cleanV a <;> rfl
/-! ### sound -/
theorem h26_ok : CallsOK (Γ mx) H26 := specs_ok (.cons (spD1_ok c54) .nil)
def lastO : List D → Option D
  | [] => none
  | d :: r => match lastO r with | some x => some x | none => some d
theorem lastO_app (p : List D) (x : D) : lastO (p ++ [x]) = some x := by
  induction p with
  | nil => rfl
  | cons d p ih => rw [List.cons_append, lastO, ih]
theorem lastO_nil {p : List D} (h : lastO p = none) : p = [] := by
  cases p with
  | nil => rfl
  | cons d p => rw [lastO] at h; split at h <;> exact absurd h (by simp)
theorem lastO_some {p : List D} {x : D} (h : lastO p = some x) : ∃ q, p = q ++ [x] := by
  induction p with
  | nil => exact absurd h (by simp [lastO])
  | cons d p ih =>
    rw [lastO] at h
    split at h
    · rename_i y hy
      cases h
      obtain ⟨q, rfl⟩ := ih hy
      exact ⟨d :: q, rfl⟩
    · rename_i hn
      cases h
      rw [lastO_nil hn]
      exact ⟨[], rfl⟩
theorem snd1_cons (o : Option D) (t : D) (r : List D) : snd1 o (t :: r) = (goodT t && ((match o with | none => true | some p => lessB (nmT p) (nmT t)) && snd1 (some t) r)) := by
  cases o with
  | none => rw [snd1]; simp
  | some p => rw [snd1, Bool.and_assoc]
theorem g26 (l : List D) (hl : l.length ≤ 8) (ha : l.all shT = true) : ∀ (rest pre : List D) (i : Int), l = pre ++ rest → i = (pre.length : Int) →
    Goes (Γ mx) H26 55 4 ⟨[(0, .sl 84 .any l), (8, .sl 84 .any l), (9, .i .i64 (l.length : Int)), (10, .i .i64 i)], []⟩ (.b (snd1 (lastO pre) rest), [])
  | [], pre, i, he, hi => by
    subst hi
    refine Goes.step ⟨0, ?_⟩
    rw [r26_4a, decide_eq_false (show ¬ (pre.length : Int) < (l.length : Int) by rw [he]; simp)]
    cases lastO pre <;> rfl
  | t :: r, pre, i, he, hi => by
    subst hi
    have hlen : l.length = pre.length + (r.length + 1) := by rw [he]; simp
    have hs : shT t = true := List.all_eq_true.1 ha t (by rw [he]; simp)
    obtain ⟨a, b, rfl, h1, h2⟩ := shT_ex hs
    have hid : ∀ {R : Type} (K : D → Option R), idx l (pre.length : Int) K = K (.agg [.str a, .str b]) := fun K => by rw [he]; exact idx_mid pre r _ K
    have hw : IntKind.wrap .i64 ((pre.length : Int) + 1) = (pre.length : Int) + 1 := wrapI (by omega) (by omega)
    obtain ⟨n, hn⟩ := g26 l hl ha r (pre ++ [.agg [.str a, .str b]]) ((pre.length : Int) + 1) (by rw [he]; simp) (by simp)
    rw [lastO_app] at hn
    rw [snd1_cons]
    refine Goes.step ⟨n, ?_⟩
    rw [r26_4a, decide_eq_true (show (pre.length : Int) < (l.length : Int) by omega), cond_true, hid]
    simp only [dAgg, lCons, dStr, lNil, hs, cond_true, hw]
    cases goodT (.agg [.str a, .str b]) with
    | false => rfl
    | true =>
      simp only [Bool.not_true, cond_false, Bool.true_and]
      cases hp : lastO pre with
      | none =>
        obtain rfl := lastO_nil hp
        exact hn
      | some p =>
        obtain ⟨q, rfl⟩ := lastO_some hp
        have hsp : shT p = true := List.all_eq_true.1 ha p (by rw [he]; simp)
        obtain ⟨a', b', rfl, _, _⟩ := shT_ex hsp
        have hw2 : IntKind.wrap .i64 (((q ++ [D.agg [.str a', .str b']]).length : Int) - 1) = (q.length : Int) := by rw [wrapI (by omega) (by simp at hlen ⊢; omega)]; simp
        have hid2 : ∀ {R : Type} (K : D → Option R), idx l (q.length : Int) K = K (.agg [.str a', .str b']) := fun K => by rw [he, List.append_assoc]; exact idx_mid q _ _ K
        rw [decide_eq_true (show (((q ++ [D.agg [.str a', .str b']]).length : Int)) > 0 by simp <;> omega), cond_true, hw2, hid2]
        simp only [lGet, List.getElem?_cons_zero]
        show (bif !lessB a' a then _ else _) = _
        have e : lessB (nmT (.agg [.str a', .str b'])) (nmT (.agg [.str a, .str b])) = lessB a' a := rfl
        simp only [e]
        cases lessB a' a with
        | false => rfl
        | true => simpa using hn
theorem c26 (l : List D) (h : tC l = true) : RetX (Γ mx) 55 [.sl 84 .any l] [] (.b (tsB l)) [] := by
  obtain ⟨h1, h2⟩ := tC_eq h
  by_cases h8 : l.length ≤ 8
  · obtain ⟨n, hn⟩ := g26 (mx := mx) l h8 h2 l [] 0 rfl rfl
    refine ret_goes (Γ := Γ mx) hP hZ h26_ok (by kernel_rfl) ⟨n, ?_⟩
    rw [r26, decide_eq_false (show ¬ (l.length : Int) > 8 by omega), tsB, decide_eq_true h8, Bool.true_and]; exact hn
  · refine ret_goes (Γ := Γ mx) hP hZ h26_ok (by kernel_rfl) ⟨0, ?_⟩
    rw [r26, decide_eq_true (show (l.length : Int) > 8 by omega), tsB, decide_eq_false h8]; rfl
theorem h27_ok : CallsOK (Γ mx) H27 := specs_ok (.cons (sp1_ok c55) .nil)
theorem le_less (a b : List UInt8) : (lessB a b || a == b) = !lessB b a := by
  cases h1 : lessB a b with
  | true => rw [lessB_asymm h1]; rfl
  | false =>
    cases h2 : lessB b a with
    | true =>
      have : (a == b) = false := beq_eq_false_iff_ne.2 fun e => by rw [e, lessB_irrefl] at h2; exact absurd h2 (by simp)
      rw [this]; rfl
    | false => rw [lessB_tri h1 h2]; simp
theorem i64_lt1 (a : List UInt8) : decide ((a.length : Int) < 1) = (a == []) := by
  cases a with
  | nil => rfl
  | cons c r => rw [decide_eq_false (by simp only [List.length_cons]; omega)]; rfl
theorem i64_gt (n k : Nat) : decide ((n : Int) > (k : Int)) = !decide (n ≤ k) := by
  by_cases h : n ≤ k
  · rw [decide_eq_true h, decide_eq_false (by omega)]; rfl
  · rw [decide_eq_false h, decide_eq_true (by omega)]; rfl
theorem g27 (l : List D) (hl : l.length ≤ 8) (ha : l.all shT = true) : ∀ (rest pre : List D) (i : Int), l = pre ++ rest → i = (pre.length : Int) →
    Goes (Γ mx) H27 45 4 ⟨[(0, .sl 84 .any l), (3, .i .i64 i)], []⟩ (.b (snd1 (lastO pre) rest), [])
  | [], pre, i, he, hi => by
    subst hi
    refine Goes.step ⟨0, ?_⟩
    rw [r27_4a, decide_eq_false (show ¬ (pre.length : Int) < (l.length : Int) by rw [he]; simp)]
    cases lastO pre <;> rfl
  | t :: r, pre, i, he, hi => by
    subst hi
    have hlen : l.length = pre.length + (r.length + 1) := by rw [he]; simp
    have hs : shT t = true := List.all_eq_true.1 ha t (by rw [he]; simp)
    obtain ⟨a, b, rfl, h1, h2⟩ := shT_ex hs
    have hid : ∀ {R : Type} (K : D → Option R), idx l (pre.length : Int) K = K (.agg [.str a, .str b]) := fun K => by rw [he]; exact idx_mid pre r _ K
    have hw : IntKind.wrap .i64 ((pre.length : Int) + 1) = (pre.length : Int) + 1 := wrapI (by omega) (by omega)
    obtain ⟨n, hn⟩ := g27 l hl ha r (pre ++ [.agg [.str a, .str b]]) ((pre.length : Int) + 1) (by rw [he]; simp) (by simp)
    rw [lastO_app] at hn
    have e : goodT (.agg [.str a, .str b]) = (!(a == []) && decide (a.length ≤ 64) && decide (b.length ≤ 64) && (cleanV a && cleanV b)) := rfl
    rw [snd1_cons, e]
    refine Goes.step ⟨n, ?_⟩
    rw [r27_4a, decide_eq_true (show (pre.length : Int) < (l.length : Int) by omega), cond_true]
    have g0 : ∀ {R : Type} (K : D → Option R), lGet [D.str a, D.str b] 0 K = K (.str a) := fun K => rfl
    have g1 : ∀ {R : Type} (K : D → Option R), lGet [D.str a, D.str b] 1 K = K (.str b) := fun K => rfl
    simp only [hid, dAgg, g0, g1, dStr, h1, h2, hw, cond_true, i64_lt1, show decide ((a.length : Int) > 64) = !decide (a.length ≤ 64) from i64_gt _ 64, show decide ((b.length : Int) > 64) = !decide (b.length ≤ 64) from i64_gt _ 64]
    cases (a == []) with
    | true => rfl
    | false =>
    cases decide (a.length ≤ 64) with
    | false => rfl
    | true =>
    cases decide (b.length ≤ 64) with
    | false => rfl
    | true =>
    cases cleanV a with
    | false => rfl
    | true =>
    cases cleanV b with
    | false => rfl
    | true =>
      simp only [Bool.not_true, Bool.not_false, cond_false, Bool.and_self, Bool.true_and]
      cases hp : lastO pre with
      | none =>
        obtain rfl := lastO_nil hp
        exact hn
      | some p =>
        obtain ⟨q, rfl⟩ := lastO_some hp
        have hsp : shT p = true := List.all_eq_true.1 ha p (by rw [he]; simp)
        obtain ⟨a', b', rfl, _, _⟩ := shT_ex hsp
        have hw2 : IntKind.wrap .i64 (((q ++ [D.agg [.str a', .str b']]).length : Int) - 1) = (q.length : Int) := by rw [wrapI (by omega) (by simp at hlen ⊢; omega)]; simp
        have hid2 : ∀ {R : Type} (K : D → Option R), idx l (q.length : Int) K = K (.agg [.str a', .str b']) := fun K => by rw [he, List.append_assoc]; exact idx_mid q _ _ K
        rw [decide_eq_true (show (((q ++ [D.agg [.str a', .str b']]).length : Int)) > 0 by simp <;> omega), cond_true, hw2, hid2]
        simp only [lGet, List.getElem?_cons_zero]
        show (bif lessB a a' || a == a' then _ else _) = _
        have e : lessB (nmT (.agg [.str a', .str b'])) (nmT (.agg [.str a, .str b])) = lessB a' a := rfl
        rw [le_less]
        simp only [e]
        cases lessB a' a with
        | false => rfl
        | true => simpa using hn
theorem c27 (l : List D) (h : tC l = true) : RetX (Γ mx) 45 [.sl 84 .any l] [] (.b (tsB l)) [] := by
  obtain ⟨h1, h2⟩ := tC_eq h
  by_cases h8 : l.length ≤ 8
  · obtain ⟨n, hn⟩ := g27 (mx := mx) l h8 h2 l [] 0 rfl rfl
    refine ret_goes (Γ := Γ mx) hP hZ h27_ok (by kernel_rfl) ⟨n, ?_⟩
    rw [r27, decide_eq_false (show ¬ (l.length : Int) > 8 by omega), tsB, decide_eq_true h8, Bool.true_and]; exact hn
  · refine ret_goes (Γ := Γ mx) hP hZ h27_ok (by kernel_rfl) ⟨0, ?_⟩
    rw [r27, decide_eq_true (show (l.length : Int) > 8 by omega), tsB, decide_eq_false h8]; rfl
/-! ### get, within -/
theorem g29 (l : List D) (s : List UInt8) (hl : l.length ≤ 8388608) (ha : l.all isT = true) : ∀ (rest pre : List D) (i : Int), l = pre ++ rest → i = (pre.length : Int) →
    Goes (Γ mx) (runS []) 80 2 ⟨[(1, .s s), (8, .sl 84 .any l), (9, .i .i64 (l.length : Int)), (10, .i .i64 i)], []⟩ (.tuple [.s (getS rest s), .b (getB rest s)], [])
  | [], pre, i, he, hi => by
    subst hi
    refine Goes.step ⟨0, ?_⟩
    rw [r29_2a, decide_eq_false (show ¬ (pre.length : Int) < (l.length : Int) by rw [he]; simp)]; rfl
  | t :: r, pre, i, he, hi => by
    subst hi
    have hlen : l.length = pre.length + (r.length + 1) := by rw [he]; simp
    obtain ⟨a, b, rfl⟩ := isT_ex (List.all_eq_true.1 ha t (by rw [he]; simp))
    have hid : ∀ {R : Type} (K : D → Option R), idx l (pre.length : Int) K = K (.agg [.str a, .str b]) := fun K => by rw [he]; exact idx_mid pre r _ K
    have hw : IntKind.wrap .i64 ((pre.length : Int) + 1) = (pre.length : Int) + 1 := wrapI (by omega) (by omega)
    obtain ⟨n, hn⟩ := g29 l s hl ha r (pre ++ [.agg [.str a, .str b]]) ((pre.length : Int) + 1) (by rw [he]; simp) (by simp)
    have e : getO (.agg [.str a, .str b] :: r) s = bif a == s then some (.agg [.str a, .str b]) else getO r s := by
      unfold getO
      rw [List.find?_cons, show eqN s (.agg [.str a, .str b]) = (a == s) from rfl]
      cases (a == s) <;> rfl
    have e1 : getS (.agg [.str a, .str b] :: r) s = bif a == s then b else getS r s := by
      unfold getS; rw [e]; cases (a == s) <;> rfl
    have e2 : getB (.agg [.str a, .str b] :: r) s = bif a == s then true else getB r s := by
      unfold getB; rw [e]; cases (a == s) <;> rfl
    refine Goes.step ⟨n, ?_⟩
    rw [r29_2a, decide_eq_true (show (pre.length : Int) < (l.length : Int) by omega), cond_true, hid, e1, e2]
    simp only [dAgg, lCons, dStr, lNil, hw]
    cases (a == s) with
    | true => rfl
    | false => exact hn
theorem c29 (l : List D) (s : List UInt8) (h : tC l = true) : RetX (Γ mx) 80 [.sl 84 .any l, .s s] [] (.tuple [.s (getS l s), .b (getB l s)]) [] := by
  obtain ⟨h1, h2⟩ := tC_eq h
  obtain ⟨n, hn⟩ := g29 (mx := mx) l s h1 (sh_all h2) l [] 0 rfl rfl
  exact ret_goes (Γ := Γ mx) hP hZ none_ok (by kernel_rfl) ⟨n, by rw [r29]; exact hn⟩
theorem h30_ok : CallsOK (Γ mx) H30 := specs_ok (.cons (spLS_ok c29) .nil)
theorem g30 (l m : List D) (hl : l.length ≤ 8388608) (ha : l.all isT = true) (hm : tC m = true) : ∀ (rest pre : List D) (i : Int), l = pre ++ rest → i = (pre.length : Int) →
    Goes (Γ mx) H30 53 2 ⟨[(1, .sl 84 .any m), (9, .sl 84 .any l), (10, .i .i64 (l.length : Int)), (11, .i .i64 i)], []⟩ (.b (withinB rest m), [])
  | [], pre, i, he, hi => by
    subst hi
    refine Goes.step ⟨0, ?_⟩
    rw [r30_2a, decide_eq_false (show ¬ (pre.length : Int) < (l.length : Int) by rw [he]; simp)]; rfl
  | t :: r, pre, i, he, hi => by
    subst hi
    have hlen : l.length = pre.length + (r.length + 1) := by rw [he]; simp
    obtain ⟨a, b, rfl⟩ := isT_ex (List.all_eq_true.1 ha t (by rw [he]; simp))
    have hid : ∀ {R : Type} (K : D → Option R), idx l (pre.length : Int) K = K (.agg [.str a, .str b]) := fun K => by rw [he]; exact idx_mid pre r _ K
    have hw : IntKind.wrap .i64 ((pre.length : Int) + 1) = (pre.length : Int) + 1 := wrapI (by omega) (by omega)
    obtain ⟨n, hn⟩ := g30 l m hl ha hm r (pre ++ [.agg [.str a, .str b]]) ((pre.length : Int) + 1) (by rw [he]; simp) (by simp)
    have e : withinB (.agg [.str a, .str b] :: r) m = ((getB m a && (getS m a == b)) && withinB r m) := rfl
    refine Goes.step ⟨n, ?_⟩
    rw [r30_2a, decide_eq_true (show (pre.length : Int) < (l.length : Int) by omega), cond_true, hid, e]
    simp only [dAgg, lCons, dStr, lNil, hw, hm, cond_true]
    cases getB m a with
    | false => rfl
    | true =>
      cases (getS m a == b) with
      | false => rfl
      | true => simpa using hn
theorem c30 (a b : List D) (h : (tC a && tC b) = true) : RetX (Γ mx) 53 [.sl 84 .any a, .sl 84 .any b] [] (.b (withinB a b)) [] := by
  simp only [Bool.and_eq_true] at h
  obtain ⟨h1, h2⟩ := tC_eq h.1
  obtain ⟨n, hn⟩ := g30 (mx := mx) a b h1 (sh_all h2) h.2 a [] 0 rfl rfl
  exact ret_goes (Γ := Γ mx) hP hZ h30_ok (by kernel_rfl) ⟨n, by rw [r30]; exact hn⟩
/-! ### same -/
theorem same_cons (a b a' b' : List UInt8) (r s : List D) : sameT (.agg [.str a, .str b] :: r) (.agg [.str a', .str b'] :: s) = ((a == a' && b == b') && sameT r s) := by
  show ((a, b) :: _ == (a', b') :: _) = _
  rfl
theorem same_self (l : List D) : sameT l l = true := by unfold sameT; exact beq_self_eq_true _
theorem same_len {a b : List D} (h : a.length ≠ b.length) : sameT a b = false := by
  unfold sameT
  refine beq_eq_false_iff_ne.2 fun e => h ?_
  have := congrArg List.length e
  simpa using this
theorem len_ne (a b : List D) : ((a.length : Int) != (b.length : Int)) = !decide (a.length = b.length) := by
  by_cases h : a.length = b.length
  · rw [h]; simp
  · rw [decide_eq_false h]; simp; omega
theorem g25 (l m : List D) (hl : l.length ≤ 8388608) (ha : l.all isT = true) (hb : m.all isT = true) : ∀ (rest rest' pre pre' : List D) (i : Int), l = pre ++ rest → m = pre' ++ rest' → rest.length = rest'.length → pre.length = pre'.length → i = (pre.length : Int) →
    Goes (Γ mx) (runS []) 40 4 ⟨[(0, .sl 84 .any l), (1, .sl 84 .any m), (5, .i .i64 i)], []⟩ (.b (sameT rest rest'), [])
  | [], [], pre, pre', i, he, he', hr, hp, hi => by
    subst hi
    refine Goes.step ⟨0, ?_⟩
    rw [r25_4a, decide_eq_false (show ¬ (pre.length : Int) < (l.length : Int) by rw [he]; simp)]; rfl
  | [], _ :: _, pre, pre', i, he, he', hr, hp, hi => by simp at hr
  | _ :: _, [], pre, pre', i, he, he', hr, hp, hi => by simp at hr
  | t :: r, t' :: r', pre, pre', i, he, he', hr, hp, hi => by
    subst hi
    have hlen : l.length = pre.length + (r.length + 1) := by rw [he]; simp
    obtain ⟨a, b, rfl⟩ := isT_ex (List.all_eq_true.1 ha t (by rw [he]; simp))
    obtain ⟨a', b', rfl⟩ := isT_ex (List.all_eq_true.1 hb t' (by rw [he']; simp))
    have hid : ∀ {R : Type} (K : D → Option R), idx l (pre.length : Int) K = K (.agg [.str a, .str b]) := fun K => by rw [he]; exact idx_mid pre r _ K
    have hid' : ∀ {R : Type} (K : D → Option R), idx m (pre.length : Int) K = K (.agg [.str a', .str b']) := fun K => by rw [he', hp]; exact idx_mid pre' r' _ K
    have hw : IntKind.wrap .i64 ((pre.length : Int) + 1) = (pre.length : Int) + 1 := wrapI (by omega) (by omega)
    obtain ⟨n, hn⟩ := g25 l m hl ha hb r r' (pre ++ [.agg [.str a, .str b]]) (pre' ++ [.agg [.str a', .str b']]) ((pre.length : Int) + 1) (by rw [he]; simp) (by rw [he']; simp) (by simpa using hr) (by simp [hp]) (by simp)
    have g0 : ∀ {R : Type} (x y : List UInt8) (K : D → Option R), lGet [D.str x, D.str y] 0 K = K (.str x) := fun x y K => rfl
    have g1 : ∀ {R : Type} (x y : List UInt8) (K : D → Option R), lGet [D.str x, D.str y] 1 K = K (.str y) := fun x y K => rfl
    refine Goes.step ⟨n, ?_⟩
    rw [r25_4a, decide_eq_true (show (pre.length : Int) < (l.length : Int) by omega), cond_true, same_cons]
    simp only [hid, hid', dAgg, g0, g1, dStr, hw]
    cases (a == a') with
    | false => rfl
    | true =>
      cases (b == b') with
      | false => rfl
      | true => simpa using hn
theorem c25 (a b : List D) (h : (tC a && tC b) = true) : RetX (Γ mx) 40 [.sl 84 .any a, .sl 84 .any b] [] (.b (sameT a b)) [] := by
  simp only [Bool.and_eq_true] at h
  obtain ⟨h1, h2⟩ := tC_eq h.1
  obtain ⟨h3, h4⟩ := tC_eq h.2
  by_cases hl : a.length = b.length
  · obtain ⟨n, hn⟩ := g25 (mx := mx) a b h1 (sh_all h2) (sh_all h4) a b [] [] 0 rfl rfl hl rfl rfl
    exact ret_goes (Γ := Γ mx) hP hZ none_ok (by kernel_rfl) ⟨n, by rw [r25, len_ne, decide_eq_true hl]; exact hn⟩
  · exact ret_goes (Γ := Γ mx) hP hZ none_ok (by kernel_rfl) ⟨0, by rw [r25, len_ne, decide_eq_false hl, same_len hl]; rfl⟩
end Go.Proofs.YtjbemleloffafaaGreatDoor.V

/- Tags: contracts: sort, clone, clip, make, merge. -/
namespace Go.Proofs.YtjbemleloffafaaGreatDoor.V
open Go
set_option maxRecDepth 100000
set_option linter.unusedVariables false
set_option linter.unusedSimpArgs false
section
variable {Γ : Ctx} {g : FuncId}
theorem RetX.ctx {R : List (FuncId × Nat)} {F O : List FuncId} {args : List AV} {obs obs' : Objs} {r : AV} (h : RetX Γ g args obs r obs') (hr : rootsOf R g = rootsOf Γ.roots g) : RetX { Γ with roots := R, refs := F, outs := O } g args obs r obs' := by
  intro w S σ X vals h0 h1 h2
  refine (h w S σ X vals (h0.trans hr) { h1 with glob := ⟨h1.glob.data, h1.glob.ifs⟩ } h2).mono ?_
  rintro v w' ⟨S', σ', hM, hk, hv⟩
  exact ⟨S', σ', { hM with glob := ⟨hM.glob.data, hM.glob.ifs⟩ }, hk, hv⟩
theorem RetX.unctx {R : List (FuncId × Nat)} {F O : List FuncId} {args : List AV} {obs obs' : Objs} {r : AV} (h : RetX { Γ with roots := R, refs := F, outs := O } g args obs r obs') (hr : rootsOf Γ.roots g = rootsOf R g) : RetX Γ g args obs r obs' := by
  intro w S σ X vals h0 h1 h2
  refine (h w S σ X vals (h0.trans hr) { h1 with glob := ⟨h1.glob.data, h1.glob.ifs⟩ } h2).mono ?_
  rintro v w' ⟨S', σ', hM, hk, hv⟩
  exact ⟨S', σ', { hM with glob := ⟨hM.glob.data, hM.glob.ifs⟩ }, hk, hv⟩
end
theorem onNil_eq {R : Type} {α : Type} {l : List α} {A B r : Option R} (h1 : l = [] → A = r) (h2 : l ≠ [] → B = r) : onNil l A B = r := by
  cases l with
  | nil => exact h1 rfl
  | cons a l => exact h2 (by simp)
theorem room32 {n : Nat} (h : n ≤ 100000000) : roomB n 32 = true := by
  unfold roomB
  simp only [Bool.and_eq_true, decide_eq_true_eq]
  exact ⟨rfl, by omega⟩
variable {mx : Int}
/-! ### sorting -/
theorem mid0 {R : Type} (P Q : List D) (y x : D) (K : D → Option R) : lGet (P ++ y :: x :: Q) P.length K = K y := by unfold lGet; simp
theorem mid1 {R : Type} (P Q : List D) (y x : D) (K : D → Option R) : lGet (P ++ y :: x :: Q) (P.length + 1) K = K x := by unfold lGet; simp
theorem set1 (P Q : List D) (y x z : D) : (P ++ y :: x :: Q).set (P.length + 1) z = P ++ y :: z :: Q := by
  rw [List.set_append_right _ _ (by omega), show P.length + 1 - P.length = 1 by omega]; rfl
theorem set0 (P Q : List D) (y x z : D) : (P ++ y :: x :: Q).set P.length z = P ++ z :: x :: Q := by
  rw [List.set_append_right _ _ (by omega), Nat.sub_self]; rfl
theorem srtC_eq {l : List D} (h : srtC l = true) : l.length ≤ 8 ∧ l.all isT = true := by simpa [srtC] using h
theorem srt_len (l : List D) : (srt [] l).length = l.length := by have := (srt_perm l []).length_eq; simpa using this
/-! ### clone, clip -/
theorem c50n : RetX (Γ mx) 122 [.sl 84 .any []] [] (.sl 84 .cl []) [] := by
  have h1 : RetX (Γ mx) 122 [.sl 84 .nl []] [] .snil [] := ret_goes (Γ := Γ mx) hP hZ none_ok (by kernel_rfl) ⟨0, by rw [nlr50]⟩
  have h2 : RetX (Γ mx) 122 [.sl 84 .nn []] [] (.sl 84 .ex []) [] := ret_goes (Γ := Γ mx) hP hZ none_ok (by kernel_rfl) ⟨0, by rw [nnr50]⟩
  have h1 : RetX (Γ mx) 122 [.sl 84 .nl []] [] (.sl 84 .cl []) [] := h1.to fun w S σ v h => by
    simp only [RepA] at h ⊢
    exact ⟨none, 0, h, ⟨rfl, fun _ => rfl⟩, .inl trivial⟩
  have h2 : RetX (Γ mx) 122 [.sl 84 .nn []] [] (.sl 84 .cl []) [] := h2.to fun w S σ v h => by
    simp only [RepA] at h ⊢
    obtain ⟨a, cap, e, hc, _⟩ := h
    simp only [CapOK] at hc
    exact ⟨a, cap, e, ⟨hc.2, fun hn => by rw [hn] at hc; simp at hc⟩, .inl trivial⟩
  intro w S σ X vals hX hM ha
  simp only [RepAs, RepA] at ha
  obtain ⟨v, _, rfl, ⟨a, cap, rfl, hc, h0⟩, rfl⟩ := ha
  simp only [CapOK] at hc
  cases a with
  | none => exact h1 w S σ X _ hX hM (by simp only [RepAs, RepA]; exact ⟨_, _, rfl, ⟨none, cap, rfl, ⟨rfl, rfl, hc.2 rfl⟩, .inl trivial⟩, rfl⟩)
  | some a => exact h2 w S σ X _ hX hM (by simp only [RepAs, RepA]; exact ⟨_, _, rfl, ⟨some a, cap, rfl, ⟨hc.1, rfl⟩, .inl trivial⟩, rfl⟩)
theorem c50c (x : D) (r : List D) (h : tC (x :: r) = true) : RetX (Γ mx) 122 [.sl 84 .any (x :: r)] [] (.ref 84 0) [some (.arr 84 (x :: r) false)] := by
  obtain ⟨h1, h2⟩ := tC_eq h
  exact ret_goes (Γ := Γ mx) hP hZ none_ok (by kernel_rfl) ⟨0, by rw [r50, room32 (by omega)]; rfl⟩
theorem xClone_ok : SpecOK (Γ mx) ⟨122, xClone⟩ := by
  intro args obs r obs' hr
  change xClone args obs = some (true, r, obs') at hr
  unfold xClone at hr
  split at hr
  · simp only [Option.some.injEq, Prod.mk.injEq] at hr
    obtain ⟨h1, rfl, rfl⟩ := hr
    obtain rfl := beq_id h1
    exact c50n.anyc
  · simp only [Option.some.injEq, Prod.mk.injEq, Bool.and_eq_true] at hr
    obtain ⟨⟨h1, h2⟩, rfl, rfl⟩ := hr
    obtain rfl := beq_id h1
    exact (c50c _ _ h2).anyc
  · exact absurd hr (by simp)
theorem c53 (l : List D) (_ : true = true) : RetX (Γ mx) 121 [.sl 84 .any l] [] (.sl 84 .cl l) [] := by
  refine ret_goes (Γ := Γ mx) hP hZ none_ok (by kernel_rfl) ⟨0, ?_⟩
  rw [r53]
  simp
end Go.Proofs.YtjbemleloffafaaGreatDoor.V

/- Tags: contracts: make, merge. -/
namespace Go.Proofs.YtjbemleloffafaaGreatDoor.V
open Go
set_option maxRecDepth 100000
set_option linter.unusedVariables false
set_option linter.unusedSimpArgs false
variable {mx : Int}
theorem wk_pair {P : Program} (c : Cp) (l : List D) (a : AV) : WkA P (.tuple [.sl 84 c l, a]) (.tuple [.sl 84 .any l, a]) := WkA.tuple (.cons (WkA.sl _ _ _) (.cons (WkA.refl _) .nil))
theorem wk_nil {P : Program} (a : AV) : WkA P (.tuple [.snil, a]) (.tuple [.sl 84 .any [], a]) := WkA.tuple (.cons (WkA.nil _) (.cons (WkA.refl _) .nil))
theorem tC_of {l : List D} (h1 : l.length ≤ 8388608) (h2 : l.all shT = true) : tC l = true := by unfold tC; rw [decide_eq_true h1, h2]; rfl
theorem sh_srt {l : List D} (h : l.all shT = true) : (srt [] l).all shT = true := List.all_eq_true.2 fun d hd => List.all_eq_true.1 h d (by
  have := (srt_perm l []).mem_iff.1 hd
  simpa using this)
theorem tC_srt {l : List D} (h : tC l = true) : tC (srt [] l) = true := by
  obtain ⟨h1, h2⟩ := tC_eq h
  exact tC_of (by rw [srt_len]; exact h1) (sh_srt h2)
def mkR (s : List D) (dup : Bool) : AV := bif dup then .tuple [.snil, .i .i64 8] else bif tsB s then .tuple [.sl 84 .cl s, .i .i64 0] else .tuple [.snil, .i .i64 2]
theorem mk_val (l : List D) (h8 : l.length ≤ 8) : ∀ {w : World} {S : Addr → Prop} {σ : Loc} {v : Value}, RepA (Γ mx).P w S σ [] (mkR (srt [] l) (adjE (srt [] l))) v → RepA (Γ mx).P w S σ [] (.tuple [.sl 84 .any (mkL l), .i .i64 (mkE l)]) v := by
  intro w S σ v h
  unfold mkR at h
  unfold mkL mkE
  rw [decide_eq_false (by omega), cond_false]
  cases hd : adjE (srt [] l) with
  | true => rw [hd] at h; exact wk_nil _ _ _ _ _ _ h
  | false =>
    rw [hd, cond_false] at h
    rw [cond_false]
    cases ht : tsB (srt [] l) with
    | true => rw [ht] at h; exact wk_pair _ _ _ _ _ _ _ _ h
    | false => rw [ht] at h; exact wk_nil _ _ _ _ _ _ h
theorem mk_big {l : List D} (h : ¬ l.length ≤ 8) : mkE l = 9 ∧ mkL l = [] := by
  have h1 : mkE l = 9 := by unfold mkE; rw [decide_eq_true (by omega)]; rfl
  exact ⟨h1, by unfold mkL; rw [h1]; rfl⟩
noncomputable def Γ0 (mx : Int) : Ctx := { Γ mx with roots := [], refs := [], outs := [] }
def Hn0 : Handle := runS [⟨122, xClone⟩, ⟨55, dat (spL1s 84 tC fun l => .b (tsB l))⟩]
theorem spec_ctx {s : Spec} (hr : rootsOf [] s.g = rootsOf (Γ mx).roots s.g) (h : SpecOK (Γ mx) s) : SpecOK (Γ0 mx) s := fun args obs r obs' hh => (h args obs r obs' hh).ctx hr
theorem hn0_ok : CallsOK (Γ0 mx) Hn0 := specs_ok (.cons (spec_ctx (by kernel_rfl) xClone_ok) (.cons (spec_ctx (by kernel_rfl) (spL1s_ok c26)) .nil))
/-! ### the document's Make -/
def ltx (x y : D) : Bool := ltT y x
def atF (x : D) : List D → Nat → Nat → Nat
  | [], _, k => k
  | y :: r, i, k => atF x r (i + 1) (bif ltx x y then i + 1 else k)
theorem atF_hi {x : D} : ∀ {Q : List D} {i k : Nat}, (∀ y ∈ Q, ltx x y = false) → atF x Q i k = k
  | [], _, _, _ => rfl
  | y :: r, i, k, h => by rw [atF, h y (by simp), cond_false]; exact atF_hi fun z hz => h z (by simp [hz])
theorem atF_take {x : D} : ∀ {Q : List D} {i : Nat}, Strict Q → atF x Q i i = i + (Q.takeWhile (ltx x)).length
  | [], i, _ => rfl
  | y :: r, i, h => by
    have hc := List.pairwise_cons.1 h
    rw [atF]
    cases hy : ltx x y with
    | true =>
      rw [cond_true, atF_take hc.2, List.takeWhile_cons, hy]
      simp; omega
    | false =>
      rw [cond_false, List.takeWhile_cons, hy]
      have : ∀ z ∈ r, ltx x z = false := fun z hz => by
        cases hz' : ltx x z with
        | false => rfl
        | true =>
          have := lessB_trans (hc.1 z hz) hz'
          unfold ltx ltT at hy
          rw [this] at hy; exact absurd hy (by simp)
      rw [atF_hi this]; simp
theorem ins_take {x : D} : ∀ {Q : List D}, Strict Q → Q.any (eqN (nmT x)) = false → insL x Q = Q.takeWhile (ltx x) ++ x :: Q.dropWhile (ltx x)
  | [], _, _ => rfl
  | y :: r, h, hn => by
    have hc := List.pairwise_cons.1 h
    rw [List.any_cons, Bool.or_eq_false_iff] at hn
    rw [insL, List.takeWhile_cons, List.dropWhile_cons]
    cases hy : ltx x y with
    | true =>
      have : ltT x y = false := lessB_asymm hy
      rw [this, cond_false, ins_take hc.2 hn.2]; rfl
    | false =>
      have hlt : ltT x y = true := by
        cases hl : ltT x y with
        | true => rfl
        | false =>
          have := lessB_tri (a := nmT x) (b := nmT y) hl hy
          have h1 := hn.1
          unfold eqN at h1
          rw [this] at h1; simp at h1
      rw [hlt]; rfl
theorem tw_take (p : D → Bool) : ∀ Q : List D, Q.take (Q.takeWhile p).length = Q.takeWhile p ∧ Q.drop (Q.takeWhile p).length = Q.dropWhile p
  | [] => ⟨rfl, rfl⟩
  | y :: r => by
    rw [List.takeWhile_cons, List.dropWhile_cons]
    cases p y with
    | true => simp [tw_take p r]
    | false => simp
theorem ins_strict {x : D} {Q : List D} (h : Strict Q) (hn : Q.any (eqN (nmT x)) = false) : Strict (insL x Q) := by
  refine adj_strict (insL_weak (h.imp fun {a b} hab => lessB_asymm hab)) ((weak_adj (insL_weak (h.imp fun {a b} hab => lessB_asymm hab))).2 ?_)
  rw [nd_perm (insL_perm x Q)]
  unfold Nd
  rw [List.map_cons, List.nodup_cons]
  exact ⟨fun hm => by rw [any_eqN.2 hm] at hn; exact absurd hn (by simp), strict_nd h⟩
theorem h23_ok : CallsOK (Γ mx) H23 := specs_ok (.cons (spL1s_ok c27) .nil)
def rmR (out rest : List D) : AV := bif dupG out rest then .tuple [.snil, .i .i64 8] else bif tsB (srt out rest) then .tuple [.sl 84 .any (srt out rest), .i .i64 0] else .tuple [.snil, .i .i64 2]
theorem dup_mem {out : List D} {x : D} {r : List D} (h : out.any (eqN (nmT x)) = true) : dupG out (x :: r) = true := by rw [dupG, h]; rfl
theorem dup_step {out : List D} {x : D} {r : List D} (h : out.any (eqN (nmT x)) = false) : rmR out (x :: r) = rmR (insL x out) r := by unfold rmR; rw [dupG, h, Bool.false_or, srt]
/-- the row that has one more -/
theorem put_row (out : List D) (x : D) (h : Strict out) (hn : out.any (eqN (nmT x)) = false) : out.take (atF x out 0 0) ++ x :: out.drop (atF x out 0 0) = insL x out := by
  rw [atF_take h, Nat.zero_add, (tw_take _ _).1, (tw_take _ _).2, ins_take h hn]
theorem atF_le {x : D} : ∀ {Q : List D} {i k : Nat}, k ≤ i → atF x Q i k ≤ i + Q.length
  | [], i, k, h => by simpa [atF] using h
  | y :: r, i, k, h => by
    rw [atF]
    have := atF_le (x := x) (Q := r) (i := i + 1) (k := bif ltx x y then i + 1 else k) (by cases ltx x y <;> simp <;> omega)
    simp; omega
theorem take_drop_len (l : List D) (k : Nat) : List.take (l.length - k) (List.drop k l) = List.drop k l := List.take_of_length_le (by simp)
theorem sh_ins {x : D} {out : List D} (hx : shT x = true) (ho : out.all shT = true) : (insL x out).all shT = true := List.all_eq_true.2 fun d hd => by
  rcases List.mem_cons.1 ((insL_perm x out).mem_iff.1 hd) with rfl | hd
  · exact hx
  · exact List.all_eq_true.1 ho d hd
theorem rm_val (l : List D) (h8 : l.length ≤ 8) : ∀ {w : World} {S : Addr → Prop} {σ : Loc} {v : Value}, RepA (Γ mx).P w S σ [] (rmR [] l) v → RepA (Γ mx).P w S σ [] (.tuple [.sl 84 .any (mkL l), .i .i64 (mkE l)]) v := by
  intro w S σ v h
  unfold rmR at h
  rw [dup_adj] at h
  unfold mkL mkE
  rw [decide_eq_false (by omega), cond_false]
  cases hd : adjE (srt [] l) with
  | true => rw [hd] at h; exact wk_nil _ _ _ _ _ _ h
  | false =>
    rw [hd, cond_false] at h
    rw [cond_false]
    cases ht : tsB (srt [] l) with
    | true => rw [ht] at h; exact h
    | false => rw [ht] at h; exact wk_nil _ _ _ _ _ _ h
end Go.Proofs.YtjbemleloffafaaGreatDoor.V

/- Tags: contracts: merge, text. -/
namespace Go.Proofs.YtjbemleloffafaaGreatDoor.V
open Go
set_option maxRecDepth 100000
set_option linter.unusedVariables false
set_option linter.unusedSimpArgs false
variable {mx : Int}
/-! ### merge -/
theorem new_cons (t : D) (r b : List D) : newT (t :: r) b = bif getB b (nmT t) then newT r b else t :: newT r b := by
  unfold newT
  rw [List.filter_cons]
  cases getB b (nmT t) <;> simp
theorem tC_app {a b : List D} (h1 : a.length + b.length ≤ 100) (h2 : a.all shT = true) (h3 : b.all shT = true) : tC (a ++ b) = true := tC_of (by simp; omega) (by rw [List.all_append, h2, h3]; rfl)
theorem ts_len {l : List D} (h : tsB l = true) : l.length ≤ 8 := by unfold tsB at h; simp only [Bool.and_eq_true, decide_eq_true_eq] at h; exact h.1
theorem new_len (a b : List D) : (newT a b).length ≤ a.length := List.length_filter_le _ _
theorem mg_no {a b : List D} (h : (tsB a && tsB b) = false) : mgE a b = 2 ∧ mgL a b = [] := by unfold mgE mgL; rw [h]; exact ⟨rfl, rfl⟩
theorem mg_yes {a b : List D} (h : (tsB a && tsB b) = true) : mgE a b = mkE (b ++ newT a b) ∧ mgL a b = mkL (b ++ newT a b) := by unfold mgE mgL; rw [h]; exact ⟨rfl, rfl⟩
/-! ### text -/
section
variable {Γ : Ctx} {g : FuncId}
end
theorem spJ2_ok : SpecOK (Γ mx) ⟨26, dat spJ2⟩ := dat_ok fun args r hr => by
  unfold spJ2 at hr
  split at hr
  · simp only [Option.some.injEq, Prod.mk.injEq] at hr
    obtain ⟨h1, rfl⟩ := hr
    exact (join_ret .any _ _ h1).args (.cons (WkA.nil 9) (.cons (WkA.refl _) .nil))
  · simp only [Option.some.injEq, Prod.mk.injEq] at hr
    obtain ⟨h1, rfl⟩ := hr
    exact join_ret _ _ _ h1
  · exact absurd hr (by simp)
theorem h32_ok : CallsOK (Γ mx) H32 := specs_ok (.cons (spL1s_ok c26) (.cons (sp1_ok c57) (.cons spJ2_ok .nil)))
theorem pt_len {d : D} (h1 : (nmT d).length ≤ 64) (h2 : (vlT d).length ≤ 64) : (ptT d).length ≤ 400 := by
  have e1 := esc_len (nmT d)
  have e2 := esc_len (vlT d)
  unfold ptT
  simp only [List.length_append, List.length_cons]
  omega
theorem good_len {d : D} (h : goodT d = true) : (nmT d).length ≤ 64 ∧ (vlT d).length ≤ 64 := by
  unfold goodT at h
  simp only [Bool.and_eq_true, decide_eq_true_eq] at h
  exact ⟨h.1.1.2, h.1.2⟩
theorem snd_good : ∀ {l : List D} {o : Option D}, snd1 o l = true → ∀ d ∈ l, goodT d = true
  | [], _, _, d, hd => by cases hd
  | t :: r, o, h, d, hd => by
    rw [snd1_cons] at h
    simp only [Bool.and_eq_true] at h
    rcases List.mem_cons.1 hd with rfl | hd
    · exact h.1
    · exact snd_good h.2.2 d hd
theorem ts_good {l : List D} (h : tsB l = true) : ∀ d ∈ l, goodT d = true := by
  unfold tsB at h
  simp only [Bool.and_eq_true] at h
  exact snd_good h.2
theorem joinT_len : ∀ {l : List D}, (∀ d ∈ l, goodT d = true) → (joinT l).length ≤ 401 * l.length
  | [], _ => by simp [joinT, Lib.join]
  | [t], h => by
    have := good_len (h t (by simp))
    have := pt_len this.1 this.2
    unfold joinT
    rw [List.map_cons, List.map_nil, Lib.join_one]
    simp; omega
  | t :: y :: r, h => by
    have := good_len (h t (by simp))
    have := pt_len this.1 this.2
    have ih := joinT_len (l := y :: r) fun d hd => h d (List.mem_cons_of_mem _ hd)
    unfold joinT at ih ⊢
    rw [List.map_cons, join_cons _ (by simp)]
    simp only [List.length_append, List.length_cons, List.length_nil] at ih ⊢
    omega
theorem txt_strs (q : List (List UInt8)) : (q.map D.str).map txt = q := by rw [List.map_map]; exact List.map_id q
theorem joinC_of {q : List (List UInt8)} (h1 : q.length ≤ 1000) (h2 : (Lib.join q [38]).length ≤ 1000000) : joinC (q.map D.str) [38] = true := by
  have ha : (q.map D.str).all isStr = true := List.all_eq_true.2 fun d hd => by obtain ⟨x, _, rfl⟩ := List.mem_map.1 hd; rfl
  unfold joinC joinV
  rw [ha, txt_strs, decide_eq_true (by simp; omega), decide_eq_true (by omega)]; rfl
theorem joinV_of (q : List (List UInt8)) : joinV (q.map D.str) [38] = Lib.join q [38] := by unfold joinV; rw [txt_strs]
theorem esc_app (a b : List UInt8) : (escV a ++ [61]) ++ escV b = escV a ++ 61 :: escV b := by simp
theorem g32 (l : List D) (hts : tsB l = true) (hs : l.all shT = true) : ∀ (rest pre : List D) (i : Int), l = pre ++ rest → pre ≠ [] → i = (pre.length : Int) →
    Goes (Γ mx) H32 23 5 ⟨[(4, .ref 9 0), (10, .sl 84 .any l), (11, .i .i64 (l.length : Int)), (12, .i .i64 i)], [some (.arr 9 ((pre.map ptT).map D.str) false)]⟩ (.tuple [.s (joinT l), .i .i64 0], [])
  | [], pre, i, he, hp, hi => by
    subst hi
    rw [List.append_nil] at he
    subst he
    have h8 := ts_len hts
    have hj := joinT_len (ts_good hts)
    refine Goes.step ⟨0, ?_⟩
    rw [r32_5b, decide_eq_false (show ¬ (l.length : Int) < (l.length : Int) by omega), joinC_of (by simp; omega) (by unfold joinT at hj; omega), joinV_of]; rfl
  | t :: r, pre, i, he, hp, hi => by
    subst hi
    have h8 := ts_len hts
    have hpl : l.length = pre.length + (r.length + 1) := by rw [he]; simp
    have ht : shT t = true := List.all_eq_true.1 hs t (by rw [he]; simp)
    have hgd := good_len (ts_good hts t (by rw [he]; simp))
    obtain ⟨x, y, rfl, hx, hy⟩ := shT_ex ht
    have hgd : x.length ≤ 64 ∧ y.length ≤ 64 := hgd
    have e1 := esc_len x
    have e2 := esc_len y
    have hid : ∀ {R : Type} (K : D → Option R), idx l (pre.length : Int) K = K (.agg [.str x, .str y]) := fun K => by rw [he]; exact idx_mid pre r _ K
    have hw : IntKind.wrap .i64 ((pre.length : Int) + 1) = (pre.length : Int) + 1 := wrapI (by omega) (by omega)
    obtain ⟨n, hn⟩ := g32 l hts hs r (pre ++ [.agg [.str x, .str y]]) ((pre.length : Int) + 1) (by rw [he]; simp) (by simp) (by simp)
    refine Goes.step ⟨n, ?_⟩
    have m1 : decide ((escV x).length + ([61] : List UInt8).length ≤ maxStr) = true := decide_eq_true (by unfold maxStr; simp only [List.length_cons, List.length_nil]; omega)
    have m2 : decide ((escV x ++ [61]).length + (escV y).length ≤ maxStr) = true := decide_eq_true (by unfold maxStr; simp only [List.length_append, List.length_cons, List.length_nil]; omega)
    rw [r32_5b, decide_eq_true (show (pre.length : Int) < (l.length : Int) by omega), cond_true, hid]
    simp only [dAgg, lCons, dStr, lNil, hx, hy, cond_true, m1, m2, hw]
    rw [room16b (by simp; omega), cond_true, esc_app]
    rw [List.map_append, List.map_append] at hn
    exact hn
theorem c32 (l : List D) (h : tC l = true) : RetX (Γ mx) 23 [.sl 84 .any l] [] (.tuple [.s (txS l), .i .i64 (txE l)]) [] := by
  obtain ⟨hl, hs⟩ := tC_eq h
  cases hts : tsB l with
  | false => exact ret_goes (Γ := Γ mx) hP hZ h32_ok (by kernel_rfl) ⟨0, by rw [r32, h, hts]; unfold txS txE; rw [hts]; rfl⟩
  | true =>
    have hg : Goes (Γ mx) H32 23 5 ⟨[(4, .snil), (10, .sl 84 .any l), (11, .i .i64 (l.length : Int)), (12, .i .i64 0)], []⟩ (.tuple [.s (joinT l), .i .i64 0], []) := by
      cases l with
      | nil => exact Goes.step ⟨0, by rw [r32_5a]; kernel_rfl⟩
      | cons t r =>
        have ht : shT t = true := List.all_eq_true.1 hs t (by simp)
        have hgd := good_len (ts_good hts t (by simp))
        obtain ⟨n, hn⟩ := g32 (mx := mx) (t :: r) hts hs r [t] 1 rfl (by simp) rfl
        obtain ⟨x, y, rfl, hx, hy⟩ := shT_ex ht
        have hgd : x.length ≤ 64 ∧ y.length ≤ 64 := hgd
        have e1 := esc_len x
        have e2 := esc_len y
        have m1 : decide ((escV x).length + ([61] : List UInt8).length ≤ maxStr) = true := decide_eq_true (by unfold maxStr; simp only [List.length_cons, List.length_nil]; omega)
        have m2 : decide ((escV x ++ [61]).length + (escV y).length ≤ maxStr) = true := decide_eq_true (by unfold maxStr; simp only [List.length_append, List.length_cons, List.length_nil]; omega)
        have hid : ∀ {R : Type} (K : D → Option R), idx (D.agg [.str x, .str y] :: r) 0 K = K (.agg [.str x, .str y]) := fun K => rfl
        refine Goes.step ⟨n, ?_⟩
        rw [r32_5a, decide_eq_true (show (0 : Int) < ((D.agg [.str x, .str y] :: r).length : Int) by simp only [List.length_cons]; omega), cond_true, hid]
        simp only [dAgg, lCons, dStr, lNil, hx, hy, cond_true, m1, m2]
        rw [esc_app]
        exact hn
    obtain ⟨n, hn⟩ := hg
    refine ret_goes (Γ := Γ mx) hP hZ h32_ok (by kernel_rfl) ⟨n, ?_⟩
    rw [r32, h, hts]
    unfold txS txE
    rw [hts]
    exact hn
theorem h33_ok : CallsOK (Γ mx) H33 := specs_ok (.cons (spL1s_ok c27) (.cons (sp1_ok c58) .nil))
theorem join_snoc {t : D} : ∀ (p : List D), p ≠ [] → joinT (p ++ [t]) = (joinT p ++ [38]) ++ ptT t
  | [], h => absurd rfl h
  | [x], _ => by unfold joinT; simp [Lib.join, List.intercalate]
  | x :: z :: p, _ => by
    have ih := join_snoc (t := t) (z :: p) (by simp)
    have a : ∀ q : List D, q ≠ [] → joinT (x :: q) = ptT x ++ [38] ++ joinT q := fun q hq => by unfold joinT; rw [List.map_cons, join_cons _ (by simpa using hq)]
    rw [List.cons_append, a _ (by simp), ih, a _ (by simp)]
    simp only [List.append_assoc]
theorem g33 (l : List D) (hts : tsB l = true) (hs : l.all shT = true) : ∀ (rest pre : List D) (i : Int), l = pre ++ rest → i = (pre.length : Int) →
    Goes (Γ mx) H33 27 5 ⟨[(0, .sl 84 .any l), (4, .s (joinT pre)), (5, .i .i64 i)], []⟩ (.tuple [.s (joinT l), .i .i64 0], [])
  | [], pre, i, he, hi => by
    subst hi
    rw [List.append_nil] at he
    subst he
    refine Goes.step ⟨0, ?_⟩
    rw [r33_5a, decide_eq_false (show ¬ (l.length : Int) < (l.length : Int) by omega)]; rfl
  | t :: r, pre, i, he, hi => by
    subst hi
    have h8 := ts_len hts
    have hpl : l.length = pre.length + (r.length + 1) := by rw [he]; simp
    have ht : shT t = true := List.all_eq_true.1 hs t (by rw [he]; simp)
    have hgd := good_len (ts_good hts t (by rw [he]; simp))
    have hj := joinT_len (l := pre) fun d hd => ts_good hts d (by rw [he]; simp [hd])
    obtain ⟨n, hn⟩ := g33 l hts hs r (pre ++ [t]) ((pre.length : Int) + 1) (by rw [he]; simp) (by simp)
    obtain ⟨x, y, rfl, hx, hy⟩ := shT_ex ht
    have hgd : x.length ≤ 64 ∧ y.length ≤ 64 := hgd
    have e1 := esc_len x
    have e2 := esc_len y
    have hid : ∀ {R : Type} (K : D → Option R), idx l (pre.length : Int) K = K (.agg [.str x, .str y]) := fun K => by rw [he]; exact idx_mid pre r _ K
    have hw : IntKind.wrap .i64 ((pre.length : Int) + 1) = (pre.length : Int) + 1 := wrapI (by omega) (by omega)
    have g0 : ∀ {R : Type} (x y : List UInt8) (K : D → Option R), lGet [D.str x, D.str y] 0 K = K (.str x) := fun x y K => rfl
    have g1 : ∀ {R : Type} (x y : List UInt8) (K : D → Option R), lGet [D.str x, D.str y] 1 K = K (.str y) := fun x y K => rfl
    have m1 : decide ((escV x).length + ([61] : List UInt8).length ≤ maxStr) = true := decide_eq_true (by unfold maxStr; simp only [List.length_cons, List.length_nil]; omega)
    have m2 : decide ((escV x ++ [61]).length + (escV y).length ≤ maxStr) = true := decide_eq_true (by unfold maxStr; simp only [List.length_append, List.length_cons, List.length_nil]; omega)
    have m0 : decide ((joinT pre).length + ([38] : List UInt8).length ≤ maxStr) = true := decide_eq_true (by unfold maxStr; simp only [List.length_cons, List.length_nil]; omega)
    have m3 : decide ((joinT pre ++ [38]).length + ((escV x ++ [61]) ++ escV y).length ≤ maxStr) = true := decide_eq_true (by unfold maxStr; simp only [List.length_append, List.length_cons, List.length_nil]; omega)
    have m4 : decide ((joinT pre).length + ((escV x ++ [61]) ++ escV y).length ≤ maxStr) = true := decide_eq_true (by unfold maxStr; simp only [List.length_append, List.length_cons, List.length_nil]; omega)
    refine Goes.step ⟨n, ?_⟩
    rw [r33_5a, decide_eq_true (show (pre.length : Int) < (l.length : Int) by omega), cond_true]
    simp only [hid, dAgg, g0, g1, dStr, hx, hy, cond_true, m1, m2, m0, m3, m4, hw]
    cases pre with
    | nil =>
      rw [decide_eq_false (show ¬ (([] : List D).length : Int) > 0 by simp), cond_false]
      have e : joinT ([] ++ [D.agg [.str x, .str y]]) = joinT [] ++ ((escV x ++ [61]) ++ escV y) := by
        rw [esc_app]; simp [joinT, Lib.join, List.intercalate]; rfl
      rw [← e]
      exact hn
    | cons p q =>
      rw [decide_eq_true (show ((p :: q).length : Int) > 0 by simp only [List.length_cons]; omega), cond_true]
      have e : joinT ((p :: q) ++ [D.agg [.str x, .str y]]) = (joinT (p :: q) ++ [38]) ++ ((escV x ++ [61]) ++ escV y) := by
        rw [join_snoc (p :: q) (by simp), esc_app]; rfl
      rw [← e]
      exact hn
theorem c33 (l : List D) (h : tC l = true) : RetX (Γ mx) 27 [.sl 84 .any l] [] (.tuple [.s (txS l), .i .i64 (txE l)]) [] := by
  obtain ⟨hl, hs⟩ := tC_eq h
  cases hts : tsB l with
  | false => exact ret_goes (Γ := Γ mx) hP hZ h33_ok (by kernel_rfl) ⟨0, by rw [r33, h, hts]; unfold txS txE; rw [hts]; rfl⟩
  | true =>
    obtain ⟨n, hn⟩ := g33 (mx := mx) l hts hs l [] 0 rfl rfl
    refine ret_goes (Γ := Γ mx) hP hZ h33_ok (by kernel_rfl) ⟨n, ?_⟩
    rw [r33, h, hts]
    unfold txS txE
    rw [hts]
    exact hn
end Go.Proofs.YtjbemleloffafaaGreatDoor.V

/- Tags: contracts: parse. Some lines were written by program. -/
namespace Go.Proofs
set_option maxRecDepth 100000
def Lt.lays145_ren : Go.Shelf.Ren := ⟨fun | 145 => 67 | 217 => 90 | 219 => 112 | 220 => 93 | 224 => 130 | 225 => 129 | 266 => 113 | 267 => 131 | 314 => 137 | n => n, fun | 3 => 3 | 4 => 4 | 5 => 5 | 9 => 9 | 46 => 94 | 51 => 146 | 59 => 102 | 146 => 156 | n => n, fun | 1 => 4 | n => n⟩
theorem Lt.lays145 : Go.Proofs.Lays.n145 Tryz.prog Lt.lays145_ren :=
  { mixed := by kernel_rfl, f145 := Tryz.func67.trans (congrArg some (by kernel_rfl)), f217 := Tryz.func90.trans (congrArg some (by kernel_rfl)), f219 := Tryz.func112.trans (congrArg some (by kernel_rfl)), f220 := Tryz.func93.trans (congrArg some (by kernel_rfl)), f224 := Tryz.func130.trans (congrArg some (by kernel_rfl)), f225 := Tryz.func129.trans (congrArg some (by kernel_rfl)), f266 := Tryz.func113.trans (congrArg some (by kernel_rfl)), f267 := Tryz.func131.trans (congrArg some (by kernel_rfl)), f314 := Tryz.func137.trans (congrArg some (by kernel_rfl)), t3 := Tryz.underlying3, a3 := Tryz.isAgg3, z3 := Tryz.sizeOf3, v3 := Tryz.zeroValue3, t4 := Tryz.underlying4, a4 := Tryz.isAgg4, z4 := Tryz.sizeOf4, v4 := Tryz.zeroValue4, t5 := Tryz.underlying5, a5 := Tryz.isAgg5, z5 := Tryz.sizeOf5, v5 := Tryz.zeroValue5, t9 := Tryz.underlying9, a9 := Tryz.isAgg9, z9 := Tryz.sizeOf9, v9 := Tryz.zeroValue9, t46 := Tryz.underlying94, a46 := Tryz.isAgg94, z46 := Tryz.sizeOf94, v46 := Tryz.zeroValue94, t51 := Tryz.underlying146, a51 := Tryz.isAgg146, z51 := Tryz.sizeOf146, v51 := Tryz.zeroValue146, t59 := Tryz.underlying102, a59 := Tryz.isAgg102, z59 := Tryz.sizeOf102, v59 := Tryz.zeroValue102, t146 := Tryz.underlying156, a146 := Tryz.isAgg156, z146 := Tryz.sizeOf156, v146 := Tryz.zeroValue156, g1 := by kernel_rfl }
end Go.Proofs
namespace Go.Proofs.YtjbemleloffafaaGreatDoor.V
open Go Go.RowKit
set_option maxRecDepth 100000
set_option linter.unusedVariables false
set_option linter.unusedSimpArgs false
variable {mx : Int}
theorem below_drewN {w : World} (k : Nat) : Below w.heap.size w (w.drewN k) := ⟨rfl, rfl, rfl, Nat.le_refl _, fun _ _ => rfl⟩
theorem cut_ret (s : List UInt8) (h : s32 s = true) : RetX (Γ mx) 67 [.s s, .s [61]] [] (.tuple [.s (tcA s), .s (tcB s), .b (tcF s)]) [] := by
  refine ret_shelfN (by kernel_rfl) fun w S vals hS hG ha => ?_
  simp only [RepAs, RepA] at ha
  obtain ⟨v, _, rfl, ⟨s, rfl, rfl⟩, v', _, rfl, ⟨u, hu, rfl⟩, rfl⟩ := ha
  obtain rfl := ba_eq hu
  refine (Any.strings_Cut Lt.lays145 s ⟨#[61]⟩ mx w (by simpa [s32] using h) (max_cell hG)).mono ?_
  rintro e w' ⟨rfl, n, rfl⟩
  refine ⟨_, rfl, below_drewN n, S, fun _ h => h, fun _ h => .inl h, ?_⟩
  simp only [RepA, RepAs]
  exact ⟨_, rfl, _, _, rfl, ⟨_, list_eta _, rfl⟩, _, _, rfl, ⟨_, list_eta _, rfl⟩, _, _, rfl, rfl, rfl⟩
theorem spCut_ok : SpecOK (Γ mx) ⟨67, dat spCut⟩ := dat_ok fun args r hr => by
  unfold spCut at hr
  split at hr
  · simp only [Option.some.injEq, Prod.mk.injEq] at hr
    obtain ⟨h1, rfl⟩ := hr
    exact cut_ret _ h1
  · exact absurd hr (by simp)
theorem spSp38_ok : SpecOK (Γ mx) ⟨30, dat spSp38⟩ := dat_ok fun args r hr => by
  unfold spSp38 at hr
  split at hr
  · simp only [Option.some.injEq, Prod.mk.injEq] at hr
    obtain ⟨h1, rfl⟩ := hr
    exact split_ret 38 _ h1
  · exact absurd hr (by simp)
theorem h34_ok : CallsOK (Γ mx) H34 := specs_ok (.cons spSp38_ok (.cons spCut_ok (.cons (sp1_ok c60) (.cons (spL1s_ok c26) .nil))))
theorem h35_ok : CallsOK (Γ mx) H35 := specs_ok (.cons (sp1_ok c49) (.cons (spL1s_ok c27) .nil))
def psR (done : List D) (parts : List (List UInt8)) : AV := match prL parts with
  | none => .tuple [.snil, .i .i64 5]
  | some m => bif tsB (done ++ m) then .tuple [.sl 84 .any (done ++ m), .i .i64 0] else .tuple [.snil, .i .i64 2]
theorem psR_none {done : List D} {p : List UInt8} {q : List (List UInt8)} (h : prP p = none) : psR done (p :: q) = .tuple [.snil, .i .i64 5] := by unfold psR; rw [prL, h]
theorem psR_some {done : List D} {p : List UInt8} {q : List (List UInt8)} {t : D} (h : prP p = some t) : psR done (p :: q) = psR (done ++ [t]) q := by
  unfold psR
  rw [prL, h]
  simp only
  cases prL q with
  | none => rfl
  | some m => simp
theorem psR_nil (done : List D) : psR done [] = bif tsB done then .tuple [.sl 84 .any done, .i .i64 0] else .tuple [.snil, .i .i64 2] := by unfold psR; simp [prL]
theorem tc_some {p a b : List UInt8} (h : cutE p = some (a, b)) : tcA p = a ∧ tcB p = b ∧ tcF p = true := by
  unfold tcA tcB tcF; rw [cut_cutE, h]; exact ⟨rfl, rfl, rfl⟩
theorem tc_none {p : List UInt8} (h : cutE p = none) : tcA p = p ∧ tcB p = [] ∧ tcF p = false := by
  unfold tcA tcB tcF; rw [cut_cutE, h]; exact ⟨rfl, rfl, rfl⟩
theorem unS_len (s : List UInt8) : (unS s).length ≤ s.length := by
  unfold unS
  cases h : unV s with
  | none => simp
  | some c => exact un_len _ s c (Nat.le_refl _) h
theorem cut_len {p a b : List UInt8} (h : cutE p = some (a, b)) : a.length ≤ p.length ∧ b.length ≤ p.length := by
  rw [(cutE_some h).1]; simp; omega
theorem pr_sh {p : List UInt8} {t : D} (hp : p.length ≤ 4194304) (h : prP p = some t) : shT t = true := by
  unfold prP at h
  split at h
  · exact absurd h (by simp)
  · rename_i a b hc
    obtain ⟨_, h⟩ := cond_some h
    cases h
    have := cut_len hc
    have h1 := unS_len a
    have h2 := unS_len b
    have e : shT (mkT (unS a) (unS b)) = (short (unS a) && short (unS b)) := rfl
    rw [e, short_of (by omega), short_of (by omega)]; rfl
theorem sh_snoc {done : List D} {t : D} (h : done.all shT = true) (ht : shT t = true) : (done ++ [t]).all shT = true := by rw [List.all_append, h]; simpa using ht
theorem pr_eq {p a b : List UInt8} (h : cutE p = some (a, b)) : prP p = bif unE a == 0 && unE b == 0 then some (mkT (unS a) (unS b)) else none := by unfold prP; rw [h]
theorem ne_beq (n : Int) : (n != 0) = !(n == 0) := rfl
/-! ### tags.Parse -/
theorem g34 (q : List (List UInt8)) (hq : q.length ≤ 4194305) (hs : ∀ p ∈ q, p.length ≤ 4194304) : ∀ (rest pre : List (List UInt8)) (done : List D) (i : Int), q = pre ++ rest → i = (pre.length : Int) → done.all shT = true → done.length ≤ pre.length →
    Goes (Γ mx) H34 34 5 ⟨[(4, .ref 84 0), (17, .sl 9 .ex (q.map D.str)), (18, .i .i64 (q.length : Int)), (19, .i .i64 i)], [some (.arr 84 done false)]⟩ (psR done rest, [])
  | [], pre, done, i, he, hi, hd, hl => by
    subst hi
    have hpl : pre.length = q.length := by rw [he]; simp
    refine Goes.step ⟨0, ?_⟩
    rw [r34_5b, decide_eq_false (show ¬ (pre.length : Int) < (q.length : Int) by omega), tC_of (by omega) hd, psR_nil]
    cases tsB done <;> rfl
  | p :: r, pre, done, i, he, hi, hd, hl => by
    subst hi
    have hpl : q.length = pre.length + (r.length + 1) := by rw [he]; simp
    have hp := hs p (by rw [he]; simp)
    have hid : ∀ {R : Type} (K : D → Option R), idx (q.map D.str) (pre.length : Int) K = K (.str p) := fun K => by
      rw [he, List.map_append, List.map_cons]
      have := idx_mid (pre.map D.str) (r.map D.str) (D.str p) K
      rwa [List.length_map] at this
    have hw : IntKind.wrap .i64 ((pre.length : Int) + 1) = (pre.length : Int) + 1 := wrapI (by omega) (by omega)
    have h32 : s32 p = true := by unfold s32; exact decide_eq_true (by omega)
    cases hc : cutE p with
    | none =>
      obtain ⟨e1, e2, e3⟩ := tc_none hc
      have hn : prP p = none := by unfold prP; rw [hc]
      refine Goes.step ⟨0, ?_⟩
      rw [r34_5b, decide_eq_true (show (pre.length : Int) < (q.length : Int) by omega), cond_true, hid, psR_none hn]
      simp only [dStr, h32, e1, e2, e3, short_of hp, short_of (show ([] : List UInt8).length ≤ 4194304 by simp), cond_true, Bool.not_false]
    | some ab =>
      obtain ⟨a, b⟩ := ab
      obtain ⟨e1, e2, e3⟩ := tc_some hc
      have hab := cut_len hc
      have hpe := pr_eq hc
      cases hu : (unE a == 0) with
      | false =>
        rw [hu] at hpe
        refine Goes.step ⟨0, ?_⟩
        rw [r34_5b, decide_eq_true (show (pre.length : Int) < (q.length : Int) by omega), cond_true, hid, psR_none hpe]
        simp only [dStr, h32, e1, e2, e3, short_of (show a.length ≤ 4194304 by omega), short_of (show b.length ≤ 4194304 by omega), cond_true, Bool.not_true, cond_false, ne_beq, hu, Bool.not_false]
      | true =>
        cases hv : (unE b == 0) with
        | false =>
          rw [hu, hv] at hpe
          refine Goes.step ⟨0, ?_⟩
          rw [r34_5b, decide_eq_true (show (pre.length : Int) < (q.length : Int) by omega), cond_true, hid, psR_none hpe]
          simp only [dStr, h32, e1, e2, e3, short_of (show a.length ≤ 4194304 by omega), short_of (show b.length ≤ 4194304 by omega), cond_true, Bool.not_true, cond_false, ne_beq, hu, hv, Bool.not_false]
        | true =>
          rw [hu, hv] at hpe
          have hsh := pr_sh hp hpe
          obtain ⟨n, hn⟩ := g34 q hq hs r (pre ++ [p]) (done ++ [mkT (unS a) (unS b)]) ((pre.length : Int) + 1) (by rw [he]; simp) (by simp) (sh_snoc hd hsh) (by simp; omega)
          refine Goes.step ⟨n, ?_⟩
          rw [r34_5b, decide_eq_true (show (pre.length : Int) < (q.length : Int) by omega), cond_true, hid, psR_some hpe]
          simp only [dStr, h32, e1, e2, e3, short_of (show a.length ≤ 4194304 by omega), short_of (show b.length ≤ 4194304 by omega), cond_true, Bool.not_true, cond_false, ne_beq, hu, hv, hw, room32 (show done.length + 1 ≤ 100000000 by omega)]
          exact hn
theorem ps_val {s : List UInt8} (h : s ≠ []) : ∀ {w : World} {S : Addr → Prop} {σ : Loc} {v : Value}, RepA (Γ mx).P w S σ [] (psR [] (spl 38 s)) v → RepA (Γ mx).P w S σ [] (.tuple [.sl 84 .any (psL s), .i .i64 (psE s)]) v := by
  intro w S σ v hv
  have hs : (s == []) = false := beq_eq_false_iff_ne.2 h
  unfold psR at hv
  unfold psL psE
  rw [hs, cond_false, cond_false]
  cases hp : prL (spl 38 s) with
  | none => rw [hp] at hv; exact wk_nil _ _ _ _ _ _ hv
  | some m =>
    rw [hp] at hv
    simp only [List.nil_append] at hv ⊢
    cases ht : tsB m with
    | true => rw [ht] at hv; exact hv
    | false => rw [ht] at hv; exact wk_nil _ _ _ _ _ _ hv
theorem c34 (s : List UInt8) (h : short s = true) : RetX (Γ mx) 34 [.s s] [] (.tuple [.sl 84 .any (psL s), .i .i64 (psE s)]) [] := by
  have hl := short_le h
  by_cases h0 : s = []
  · subst h0
    exact RetX.wk (ret_goes (Γ := Γ mx) (f := 34) (args := [.s []]) (obs := []) hP hZ h34_ok (by kernel_rfl) ⟨0, by rw [r34]; rfl⟩) (wk_nil _)
  · have hs0 : (s == []) = false := beq_eq_false_iff_ne.2 h0
    have h32 : s32 s = true := by unfold s32; exact decide_eq_true (by omega)
    have hn1 := spl_num 38 s
    have hn2 := spl_len 38 s
    have hgo : Goes (Γ mx) H34 34 5 ⟨[(4, .snil), (17, .sl 9 .ex ((spl 38 s).map D.str)), (18, .i .i64 ((spl 38 s).length : Int)), (19, .i .i64 0)], []⟩ (psR [] (spl 38 s), []) := by
      cases hq : spl 38 s with
      | nil => exact absurd hq (spl_ne 38 s)
      | cons p r =>
        have hp := hn2 p (by rw [hq]; simp)
        have hid : ∀ {R : Type} (K : D → Option R), idx ((p :: r).map D.str) 0 K = K (.str p) := fun K => rfl
        have hsp : s32 p = true := by unfold s32; exact decide_eq_true (by omega)
        have hd0 : decide ((0 : Int) < ((p :: r).length : Int)) = true := decide_eq_true (by simp only [List.length_cons]; omega)
        cases hc : cutE p with
        | none =>
          obtain ⟨e1, e2, e3⟩ := tc_none hc
          have hn : prP p = none := by unfold prP; rw [hc]
          refine Goes.step ⟨0, ?_⟩
          rw [r34_5a, hd0, cond_true, hid, psR_none hn]
          simp only [dStr, hsp, e1, e2, e3, short_of (show p.length ≤ 4194304 by omega), short_of (show ([] : List UInt8).length ≤ 4194304 by simp), cond_true, Bool.not_false]
        | some ab =>
          obtain ⟨a, b⟩ := ab
          obtain ⟨e1, e2, e3⟩ := tc_some hc
          have hab := cut_len hc
          have hpe := pr_eq hc
          cases hu : (unE a == 0) with
          | false =>
            rw [hu] at hpe
            refine Goes.step ⟨0, ?_⟩
            rw [r34_5a, hd0, cond_true, hid, psR_none hpe]
            simp only [dStr, hsp, e1, e2, e3, short_of (show a.length ≤ 4194304 by omega), short_of (show b.length ≤ 4194304 by omega), cond_true, Bool.not_true, cond_false, ne_beq, hu, Bool.not_false]
          | true =>
            cases hv : (unE b == 0) with
            | false =>
              rw [hu, hv] at hpe
              refine Goes.step ⟨0, ?_⟩
              rw [r34_5a, hd0, cond_true, hid, psR_none hpe]
              simp only [dStr, hsp, e1, e2, e3, short_of (show a.length ≤ 4194304 by omega), short_of (show b.length ≤ 4194304 by omega), cond_true, Bool.not_true, cond_false, ne_beq, hu, hv, Bool.not_false]
            | true =>
              rw [hu, hv] at hpe
              have hsh := pr_sh (by omega) hpe
              obtain ⟨n, hn⟩ := g34 (mx := mx) (p :: r) (by rw [← hq]; omega) (fun x hx => by have := hn2 x (by rw [hq]; exact hx); omega) r [p] [mkT (unS a) (unS b)] 1 rfl rfl (by simpa using hsh) (by simp)
              refine Goes.step ⟨n, ?_⟩
              rw [r34_5a, hd0, cond_true, hid, psR_some hpe]
              simp only [dStr, hsp, e1, e2, e3, short_of (show a.length ≤ 4194304 by omega), short_of (show b.length ≤ 4194304 by omega), cond_true, Bool.not_true, cond_false, ne_beq, hu, hv]
              exact hn
    obtain ⟨n, hn⟩ := hgo
    refine RetX.to (ret_goes (Γ := Γ mx) (f := 34) (args := [.s s]) (obs := []) hP hZ h34_ok (by kernel_rfl) ⟨n, ?_⟩) fun w S σ v hv => ps_val h0 hv
    have e : splitC 38 s = (spl 38 s).map D.str := by unfold splitC; rw [split_spl]
    rw [r34, hs0, h32, e, List.length_map]
    exact hn
/-! ### the document's Parse -/
theorem part35 (s : List UInt8) (X : AV) (O : Objs) (done : List D) (hd0' : done.length ≤ 50000000)
    (E13 : ∀ (lab : Lab) (s1 : List UInt8) (n2 : Int) (n3 : Int) (s4 : List UInt8) (n5 : Int) (n6 : Int) (n7 : Int), evL (Γ mx) H35 lab 39 13 ⟨[(0, .s s1), (4, X), (5, .i .i64 n2), (6, .i .i64 n3), (7, .s s4), (8, .i .i64 n5), (9, .i .i64 n6), (10, .i .i64 n7)], O⟩ = bif decide (n7 < ((List.length s4 : Int))) then (idx s4 n7 fun c9 => bif ((c9.toNat : Int)) == 61 then (lab (todoAt (Γ mx) 39 13) ⟨[(0, .s s1), (4, X), (5, .i .i64 n2), (6, .i .i64 n3), (7, .s s4), (8, .i .i64 n7), (9, .i .i64 (IntKind.wrap .i64 (n6 + 1))), (10, .i .i64 (IntKind.wrap .i64 (n7 + 1)))], O⟩) else (lab (todoAt (Γ mx) 39 13) ⟨[(0, .s s1), (4, X), (5, .i .i64 n2), (6, .i .i64 n3), (7, .s s4), (8, .i .i64 n5), (9, .i .i64 n6), (10, .i .i64 (IntKind.wrap .i64 (n7 + 1)))], O⟩)) else (bif n6 != 1 then (some (.tuple [.snil, .i .i64 5], [])) else (bif decide ((0:Int) ≤ n5) && decide (n5 ≤ (List.length s4 : Int)) then (bif short (List.take ((Int.toNat n5) - 0) (List.drop 0 s4)) then (bif decide ((0:Int) ≤ (IntKind.wrap .i64 (n5 + 1))) && decide ((IntKind.wrap .i64 (n5 + 1)) ≤ (List.length s4 : Int)) then (bif short (List.take ((List.length s4) - (Int.toNat (IntKind.wrap .i64 (n5 + 1)))) (List.drop (Int.toNat (IntKind.wrap .i64 (n5 + 1))) s4)) then (bif (unE (List.take ((Int.toNat n5) - 0) (List.drop 0 s4))) != 0 then (some (.tuple [.snil, .i .i64 5], [])) else (bif (unE (List.take ((List.length s4) - (Int.toNat (IntKind.wrap .i64 (n5 + 1)))) (List.drop (Int.toNat (IntKind.wrap .i64 (n5 + 1))) s4))) != 0 then (some (.tuple [.snil, .i .i64 5], [])) else (bif roomB (done.length + 1) 32 then (lab (todoAt (Γ mx) 39 6) ⟨[(0, .s s1), (4, .ref 84 0), (5, .i .i64 n2), (6, .i .i64 (IntKind.wrap .i64 (n3 + 1)))], [some (.arr 84 (done ++ [D.agg [D.str (unS (List.take ((Int.toNat n5) - 0) (List.drop 0 s4))), D.str (unS (List.take ((List.length s4) - (Int.toNat (IntKind.wrap .i64 (n5 + 1)))) (List.drop (Int.toNat (IntKind.wrap .i64 (n5 + 1))) s4)))]]) false)]⟩) else none))) else none) else none) else none) else none)))
    (fr i : Int) (hi0 : 0 ≤ i) (hi : i ≤ 100000000) (p : List UInt8) (hp : p.length ≤ 4194304) (R : AV × Objs) (hbad : prP p = none → R = (.tuple [.snil, .i .i64 5], []))
    (hgood : ∀ t, prP p = some t → Goes (Γ mx) H35 39 6 ⟨[(0, .s s), (4, .ref 84 0), (5, .i .i64 fr), (6, .i .i64 (i + 1))], [some (.arr 84 (done ++ [t]) false)]⟩ R) :
    ∀ (rest q : List UInt8) (k : Nat), p = q ++ rest → (1 ≤ q.count 61 → ∃ a b, q = a ++ 61 :: b ∧ k = a.length ∧ (61 : UInt8) ∉ b) → k ≤ q.length →
      Goes (Γ mx) H35 39 13 ⟨[(0, .s s), (4, X), (5, .i .i64 fr), (6, .i .i64 i), (7, .s p), (8, .i .i64 (k : Int)), (9, .i .i64 ((q.count 61 : Nat) : Int)), (10, .i .i64 (q.length : Int))], O⟩ R
  | [], q, k, he, hk, hkl => by
    rw [List.append_nil] at he
    subst he
    by_cases hc : p.count 61 = 1
    · obtain ⟨a, b, rfl, rfl, hb⟩ := hk (by omega)
      have ha : (61 : UInt8) ∉ a := by
        rw [List.count_append, List.count_cons_self] at hc
        exact List.count_eq_zero.1 (by omega)
      have hcut := cutE_app b ha
      have hpe := pr_eq hcut
      have hlen : (a ++ 61 :: b).length = a.length + (b.length + 1) := by simp
      have ea : List.take a.length (a ++ 61 :: b) = a := by simp
      have hw : IntKind.wrap .i64 ((a.length : Int) + 1) = ((a.length + 1 : Nat) : Int) := by rw [wrapI (by omega) (by omega)]; omega
      have eb : List.take ((a ++ 61 :: b).length - (a.length + 1)) (List.drop (a.length + 1) (a ++ 61 :: b)) = b := by
        have : List.drop (a.length + 1) (a ++ 61 :: b) = b := by rw [List.drop_append]; simp
        rw [this]
        exact List.take_of_length_le (by simp; omega)
      have d1 : decide ((0:Int) ≤ (a.length : Int)) = true := decide_eq_true (by omega)
      have d2 : decide ((a.length : Int) ≤ ((a ++ 61 :: b).length : Int)) = true := decide_eq_true (by omega)
      have d3 : decide ((0:Int) ≤ ((a.length + 1 : Nat) : Int)) = true := decide_eq_true (by omega)
      have d4 : decide (((a.length + 1 : Nat) : Int) ≤ ((a ++ 61 :: b).length : Int)) = true := decide_eq_true (by omega)
      have hc1 : (((List.count 61 (a ++ 61 :: b) : Nat) : Int) != 1) = false := by rw [hc]; rfl
      have hwi : IntKind.wrap .i64 (i + 1) = i + 1 := wrapI (by omega) (by omega)
      have hdl : decide (((a ++ 61 :: b).length : Int) < ((a ++ 61 :: b).length : Int)) = false := decide_eq_false (by omega)
      cases hu : (unE a == 0) with
      | false =>
        rw [hu] at hpe
        rw [hbad hpe]
        refine Goes.step ⟨0, ?_⟩
        rw [E13]
        simp only [hdl, cond_false, hc1, d1, d2, d3, d4, Bool.and_self, cond_true, Int.toNat_natCast, Nat.sub_zero, List.drop_zero, ea, hw, eb, short_of (show a.length ≤ 4194304 by omega), short_of (show b.length ≤ 4194304 by omega), ne_beq, hu, Bool.not_false]
      | true =>
        cases hv : (unE b == 0) with
        | false =>
          rw [hu, hv] at hpe
          rw [hbad hpe]
          refine Goes.step ⟨0, ?_⟩
          rw [E13]
          simp only [hdl, cond_false, hc1, d1, d2, d3, d4, Bool.and_self, cond_true, Int.toNat_natCast, Nat.sub_zero, List.drop_zero, ea, hw, eb, short_of (show a.length ≤ 4194304 by omega), short_of (show b.length ≤ 4194304 by omega), ne_beq, hu, hv, Bool.not_false, Bool.not_true]
        | true =>
          rw [hu, hv] at hpe
          obtain ⟨n, hn⟩ := hgood _ hpe
          refine Goes.step ⟨n, ?_⟩
          rw [E13]
          simp only [hdl, cond_false, hc1, d1, d2, d3, d4, Bool.and_self, cond_true, Int.toNat_natCast, Nat.sub_zero, List.drop_zero, ea, hw, eb, short_of (show a.length ≤ 4194304 by omega), short_of (show b.length ≤ 4194304 by omega), ne_beq, hu, hv, Bool.not_true, room32 (show done.length + 1 ≤ 100000000 by omega), hwi]
          exact hn
    · have hn := pr_count hc
      rw [hbad hn]
      refine Goes.step ⟨0, ?_⟩
      have hc1 : (((p.count 61 : Nat) : Int) != 1) = true := by simp; omega
      rw [E13, decide_eq_false (show ¬ (p.length : Int) < (p.length : Int) by omega), cond_false, hc1]; rfl
  | c :: r, q, k, he, hk, hkl => by
    have hpl : p.length = q.length + (r.length + 1) := by rw [he]; simp
    have hid : ∀ {R : Type} (K : UInt8 → Option R), idx p (q.length : Int) K = K c := fun K => by rw [he]; exact idx_mid q r c K
    have hw : IntKind.wrap .i64 ((q.length : Int) + 1) = ((q.length + 1 : Nat) : Int) := by rw [wrapI (by omega) (by omega)]; omega
    have hcl := List.count_le_length (a := (61 : UInt8)) (l := q)
    have hwc : IntKind.wrap .i64 (((q.count 61 : Nat) : Int) + 1) = ((q.count 61 + 1 : Nat) : Int) := by rw [wrapI (by omega) (by omega)]; omega
    have hd : decide ((q.length : Int) < (p.length : Int)) = true := decide_eq_true (by omega)
    by_cases hc : c = 61
    · subst hc
      obtain ⟨n, hn⟩ := part35 s X O done hd0' E13 fr i hi0 hi p hp R hbad hgood r (q ++ [61]) q.length (by rw [he]; simp) (fun _ => ⟨q, [], by simp, rfl, by simp⟩) (by simp)
      refine Goes.step ⟨n, ?_⟩
      rw [E13, hd, cond_true, hid, show (((61 : UInt8).toNat : Int) == 61) = true from rfl, cond_true, hw, hwc]
      rw [List.count_append, List.length_append] at hn
      exact hn
    · have hne : ((c.toNat : Int) == 61) = false := u8_ne (k := 61) (by omega) hc
      have hcnt : (q ++ [c]).count 61 = q.count 61 := by rw [List.count_append, List.count_cons_of_ne (by simpa using hc)]; simp
      obtain ⟨n, hn⟩ := part35 s X O done hd0' E13 fr i hi0 hi p hp R hbad hgood r (q ++ [c]) k (by rw [he]; simp) (fun h => by
        rw [hcnt] at h
        obtain ⟨a, b, rfl, rfl, hb⟩ := hk h
        exact ⟨a, b ++ [c], by simp, rfl, by simp [hb, Ne.symm hc]⟩) (by simp; omega)
      refine Goes.step ⟨n, ?_⟩
      rw [E13, hd, cond_true, hid, hne, cond_false, hw]
      rw [hcnt, List.length_append] at hn
      exact hn
theorem step35 (s : List UInt8) (hs : s.length ≤ 4194304) (X : AV) (O : Objs) (fin : Option (AV × Objs)) (done : List D) (hdl : done.length ≤ s.length) (hds : done.all shT = true)
    (E6 : ∀ (lab : Lab) (s1 : List UInt8) (n2 : Int) (n3 : Int), evL (Γ mx) H35 lab 39 6 ⟨[(0, .s s1), (4, X), (5, .i .i64 n2), (6, .i .i64 n3)], O⟩ = bif decide (n3 ≤ ((List.length s1 : Int))) then (bif decide (n3 < ((List.length s1 : Int))) then (idx s1 n3 fun c5 => bif ((c5.toNat : Int)) != 38 then (lab (todoAt (Γ mx) 39 6) ⟨[(0, .s s1), (4, X), (5, .i .i64 n2), (6, .i .i64 (IntKind.wrap .i64 (n3 + 1)))], O⟩) else (bif decide ((0:Int) ≤ n3) && decide (n3 ≤ (List.length s1 : Int)) then (bif decide ((0:Int) ≤ n2) && decide (n2 ≤ (Int.toNat n3 : Int)) then (lab (todoAt (Γ mx) 39 13) ⟨[(0, .s s1), (4, X), (5, .i .i64 (IntKind.wrap .i64 (n3 + 1))), (6, .i .i64 n3), (7, .s (List.take ((Int.toNat n3) - (Int.toNat n2)) (List.drop (Int.toNat n2) s1))), (8, .i .i64 0), (9, .i .i64 0), (10, .i .i64 0)], O⟩) else none) else none)) else (bif decide ((0:Int) ≤ n3) && decide (n3 ≤ (List.length s1 : Int)) then (bif decide ((0:Int) ≤ n2) && decide (n2 ≤ (Int.toNat n3 : Int)) then (lab (todoAt (Γ mx) 39 13) ⟨[(0, .s s1), (4, X), (5, .i .i64 (IntKind.wrap .i64 (n3 + 1))), (6, .i .i64 n3), (7, .s (List.take ((Int.toNat n3) - (Int.toNat n2)) (List.drop (Int.toNat n2) s1))), (8, .i .i64 0), (9, .i .i64 0), (10, .i .i64 0)], O⟩) else none) else none)) else fin)
    (E13 : ∀ (lab : Lab) (s1 : List UInt8) (n2 : Int) (n3 : Int) (s4 : List UInt8) (n5 : Int) (n6 : Int) (n7 : Int), evL (Γ mx) H35 lab 39 13 ⟨[(0, .s s1), (4, X), (5, .i .i64 n2), (6, .i .i64 n3), (7, .s s4), (8, .i .i64 n5), (9, .i .i64 n6), (10, .i .i64 n7)], O⟩ = bif decide (n7 < ((List.length s4 : Int))) then (idx s4 n7 fun c9 => bif ((c9.toNat : Int)) == 61 then (lab (todoAt (Γ mx) 39 13) ⟨[(0, .s s1), (4, X), (5, .i .i64 n2), (6, .i .i64 n3), (7, .s s4), (8, .i .i64 n7), (9, .i .i64 (IntKind.wrap .i64 (n6 + 1))), (10, .i .i64 (IntKind.wrap .i64 (n7 + 1)))], O⟩) else (lab (todoAt (Γ mx) 39 13) ⟨[(0, .s s1), (4, X), (5, .i .i64 n2), (6, .i .i64 n3), (7, .s s4), (8, .i .i64 n5), (9, .i .i64 n6), (10, .i .i64 (IntKind.wrap .i64 (n7 + 1)))], O⟩)) else (bif n6 != 1 then (some (.tuple [.snil, .i .i64 5], [])) else (bif decide ((0:Int) ≤ n5) && decide (n5 ≤ (List.length s4 : Int)) then (bif short (List.take ((Int.toNat n5) - 0) (List.drop 0 s4)) then (bif decide ((0:Int) ≤ (IntKind.wrap .i64 (n5 + 1))) && decide ((IntKind.wrap .i64 (n5 + 1)) ≤ (List.length s4 : Int)) then (bif short (List.take ((List.length s4) - (Int.toNat (IntKind.wrap .i64 (n5 + 1)))) (List.drop (Int.toNat (IntKind.wrap .i64 (n5 + 1))) s4)) then (bif (unE (List.take ((Int.toNat n5) - 0) (List.drop 0 s4))) != 0 then (some (.tuple [.snil, .i .i64 5], [])) else (bif (unE (List.take ((List.length s4) - (Int.toNat (IntKind.wrap .i64 (n5 + 1)))) (List.drop (Int.toNat (IntKind.wrap .i64 (n5 + 1))) s4))) != 0 then (some (.tuple [.snil, .i .i64 5], [])) else (bif roomB (done.length + 1) 32 then (lab (todoAt (Γ mx) 39 6) ⟨[(0, .s s1), (4, .ref 84 0), (5, .i .i64 n2), (6, .i .i64 (IntKind.wrap .i64 (n3 + 1)))], [some (.arr 84 (done ++ [D.agg [D.str (unS (List.take ((Int.toNat n5) - 0) (List.drop 0 s4))), D.str (unS (List.take ((List.length s4) - (Int.toNat (IntKind.wrap .i64 (n5 + 1)))) (List.drop (Int.toNat (IntKind.wrap .i64 (n5 + 1))) s4)))]]) false)]⟩) else none))) else none) else none) else none) else none))) :
    ∀ (rest cur pre : List UInt8), s = pre ++ (cur ++ rest) →
      (∀ (rest' pre' : List UInt8) (t : D), s = pre' ++ rest' → rest'.length < rest.length → pre'.length ≥ pre.length + 1 → shT t = true → Goes (Γ mx) H35 39 6 ⟨[(0, .s s), (4, .ref 84 0), (5, .i .i64 (pre'.length : Int)), (6, .i .i64 (pre'.length : Int))], [some (.arr 84 (done ++ [t]) false)]⟩ (psR (done ++ [t]) (spl 38 rest'), [])) →
      Goes (Γ mx) H35 39 6 ⟨[(0, .s s), (4, X), (5, .i .i64 (pre.length : Int)), (6, .i .i64 ((pre.length + cur.length : Nat) : Int))], O⟩ (psR done (catHd cur (spl 38 rest)), [])
  | [], cur, pre, he, hb => by
    rw [List.append_nil] at he
    have hpl : s.length = pre.length + cur.length := by rw [he]; simp
    have ecur : List.take ((pre.length + cur.length) - pre.length) (List.drop pre.length s) = cur := by
      rw [he, List.drop_left, show pre.length + cur.length - pre.length = cur.length by omega]; simp
    have hw : IntKind.wrap .i64 (((pre.length + cur.length : Nat) : Int) + 1) = ((pre.length + cur.length : Nat) : Int) + 1 := wrapI (by omega) (by omega)
    have hlst : catHd cur (spl 38 []) = [cur] := by simp [spl, catHd]
    rw [hlst]
    obtain ⟨n, hn⟩ := part35 (mx := mx) s X O done (by omega) E13 (((pre.length + cur.length : Nat) : Int) + 1) ((pre.length + cur.length : Nat) : Int) (by omega) (by omega) cur (by omega) (psR done [cur], []) (fun h => by rw [psR_none h])
      (fun t ht => Goes.step ⟨0, by
        have hsh := pr_sh (by omega) ht
        rw [psR_some ht, psR_nil, r35_6b, decide_eq_false (show ¬ ((pre.length + cur.length : Nat) : Int) + 1 ≤ (s.length : Int) by omega), cond_false, tC_of (by simp; omega) (sh_snoc hds hsh)]
        cases tsB (done ++ [t]) <;> rfl⟩) cur [] 0 rfl (fun h => by simp at h) (Nat.le_refl _)
    refine Goes.step ⟨n, ?_⟩
    have d1 : decide (((pre.length + cur.length : Nat) : Int) ≤ (s.length : Int)) = true := decide_eq_true (by omega)
    have d2 : decide (((pre.length + cur.length : Nat) : Int) < (s.length : Int)) = false := decide_eq_false (by omega)
    have d3 : decide ((0:Int) ≤ ((pre.length + cur.length : Nat) : Int)) = true := decide_eq_true (by omega)
    have d4 : decide ((0:Int) ≤ (pre.length : Int)) = true := decide_eq_true (by omega)
    have d5 : decide ((pre.length : Int) ≤ ((pre.length + cur.length : Nat) : Int)) = true := decide_eq_true (by omega)
    rw [E6]
    simp only [d1, d2, d3, d4, d5, cond_true, cond_false, Bool.and_self, Int.toNat_natCast, ecur, hw]
    exact hn
  | c :: r, cur, pre, he, hb => by
    have hpl : s.length = pre.length + cur.length + (r.length + 1) := by rw [he]; simp; omega
    have hid : ∀ {R : Type} (K : UInt8 → Option R), idx s ((pre.length + cur.length : Nat) : Int) K = K c := fun K => by
      rw [he, ← List.append_assoc]
      have := idx_mid (pre ++ cur) r c K
      rwa [List.length_append] at this
    have d1 : decide (((pre.length + cur.length : Nat) : Int) ≤ (s.length : Int)) = true := decide_eq_true (by omega)
    have d2 : decide (((pre.length + cur.length : Nat) : Int) < (s.length : Int)) = true := decide_eq_true (by omega)
    have hw : IntKind.wrap .i64 (((pre.length + cur.length : Nat) : Int) + 1) = ((pre.length + cur.length : Nat) : Int) + 1 := wrapI (by omega) (by omega)
    by_cases hc : c = 38
    · subst hc
      have ecur : List.take ((pre.length + cur.length) - pre.length) (List.drop pre.length s) = cur := by
        rw [he, List.drop_left, show pre.length + cur.length - pre.length = cur.length by omega]; simp
      have hlst : catHd cur (spl 38 (38 :: r)) = cur :: spl 38 r := by simp [spl, catHd]
      rw [hlst]
      obtain ⟨n, hn⟩ := part35 (mx := mx) s X O done (by omega) E13 (((pre.length + cur.length : Nat) : Int) + 1) ((pre.length + cur.length : Nat) : Int) (by omega) (by omega) cur (by omega) (psR done (cur :: spl 38 r), []) (fun h => by rw [psR_none h])
        (fun t ht => by
          have hsh := pr_sh (by omega) ht
          have hx := hb r (pre ++ (cur ++ [38])) t (by rw [he]; simp) (by simp) (by simp) hsh
          rw [psR_some ht]
          have hl : (((pre ++ (cur ++ [38])).length : Nat) : Int) = ((pre.length + cur.length : Nat) : Int) + 1 := by simp; omega
          rw [hl] at hx
          exact hx) cur [] 0 rfl (fun h => by simp at h) (Nat.le_refl _)
      refine Goes.step ⟨n, ?_⟩
      have d3 : decide ((0:Int) ≤ ((pre.length + cur.length : Nat) : Int)) = true := decide_eq_true (by omega)
      have d4 : decide ((0:Int) ≤ (pre.length : Int)) = true := decide_eq_true (by omega)
      have d5 : decide ((pre.length : Int) ≤ ((pre.length + cur.length : Nat) : Int)) = true := decide_eq_true (by omega)
      have h38 : (((38 : UInt8).toNat : Int) != 38) = false := rfl
      rw [E6]
      simp only [d1, d2, d3, d4, d5, cond_true, cond_false, Bool.and_self, Int.toNat_natCast, ecur, hw, hid, h38]
      exact hn
    · have hne : ((c.toNat : Int) != 38) = true := by
        have := u8_ne (k := 38) (by omega) hc
        show (!((c.toNat : Int) == 38)) = true
        rw [show ((c.toNat : Int) == 38) = false from this]; rfl
      obtain ⟨n, hn⟩ := step35 s hs X O fin done hdl hds E6 E13 r (cur ++ [c]) pre (by rw [he]; simp) (fun rest' pre' t h1 h2 h3 h4 => hb rest' pre' t h1 (by simp; omega) h3 h4)
      have hlst : catHd cur (spl 38 (c :: r)) = catHd (cur ++ [c]) (spl 38 r) := by
        rw [spl, if_neg hc, catHd_cons cur c (spl_ne 38 r)]
      rw [hlst]
      refine Goes.step ⟨n, ?_⟩
      have hl : (((pre.length + (cur ++ [c]).length : Nat)) : Int) = ((pre.length + cur.length : Nat) : Int) + 1 := by simp; omega
      rw [hl] at hn
      rw [E6]
      simp only [d1, d2, cond_true, hid, hne, hw]
      exact hn
theorem b35 (s : List UInt8) (hs : s.length ≤ 4194304) : ∀ (m : Nat) (rest pre : List UInt8) (done : List D), rest.length ≤ m → s = pre ++ rest → done.length ≤ pre.length → done.all shT = true →
    Goes (Γ mx) H35 39 6 ⟨[(0, .s s), (4, .ref 84 0), (5, .i .i64 (pre.length : Int)), (6, .i .i64 (pre.length : Int))], [some (.arr 84 done false)]⟩ (psR done (spl 38 rest), [])
  | m, rest, pre, done, hm, he, hd, hds => by
    have hpl : s.length = pre.length + rest.length := by rw [he]; simp
    have h := step35 (mx := mx) s hs (.ref 84 0) [some (.arr 84 done false)] _ done (by omega) hds (fun lab s1 n2 n3 => r35_6b lab s1 n2 n3 done) (fun lab s1 n2 n3 s4 n5 n6 n7 => r35_13b lab s1 n2 n3 s4 n5 n6 n7 done) rest [] pre (by rw [he]; rfl)
      (fun rest' pre' t h1 h2 h3 h4 => match m, hm with
        | 0, hm => absurd h2 (by omega)
        | m + 1, hm => b35 s hs m rest' pre' (done ++ [t]) (by omega) h1 (by simp; omega) (sh_snoc hds h4))
    rw [catHd_nil (spl_ne 38 rest)] at h
    exact h
theorem c35 (s : List UInt8) (h : short s = true) : RetX (Γ mx) 39 [.s s] [] (.tuple [.sl 84 .any (psL s), .i .i64 (psE s)]) [] := by
  have hl := short_le h
  by_cases h0 : s = []
  · subst h0
    exact RetX.wk (ret_goes (Γ := Γ mx) (f := 39) (args := [.s []]) (obs := []) hP hZ h35_ok (by kernel_rfl) ⟨0, by rw [r35]; rfl⟩) (wk_pair _ _ _)
  · have hs0 : (s == []) = false := beq_eq_false_iff_ne.2 h0
    have hg := step35 (mx := mx) s hl (.sl 84 .ex []) [] _ [] (by simp) rfl (fun lab s1 n2 n3 => r35_6a lab s1 [] n2 n3) (fun lab s1 n2 n3 s4 n5 n6 n7 => r35_13a lab s1 [] n2 n3 s4 n5 n6 n7) s [] [] rfl
      (fun rest' pre' t h1 h2 h3 h4 => b35 s hl rest'.length rest' pre' [t] (Nat.le_refl _) h1 (by simpa using h3) (by simpa using h4))
    rw [catHd_nil (spl_ne 38 s)] at hg
    obtain ⟨n, hn⟩ := hg
    refine RetX.to (ret_goes (Γ := Γ mx) (f := 39) (args := [.s s]) (obs := []) hP hZ h35_ok (by kernel_rfl) ⟨n, ?_⟩) fun w S σ v hv => ps_val h0 hv
    rw [r35, hs0]
    exact hn
end Go.Proofs.YtjbemleloffafaaGreatDoor.V

/- Tags: the laws, in the machine over values. -/
namespace Go.Proofs.YtjbemleloffafaaGreatDoor.V
open Go
set_option maxRecDepth 100000
set_option linter.unusedVariables false
set_option linter.unusedSimpArgs false
variable {mx : Int}
/-! ### sizes -/
theorem tC_nil : tC [] = true := rfl
theorem tC_mk {l : List D} (h : tC l = true) : tC (mkL l) = true := by
  unfold mkL
  cases mkE l == 0 with
  | true => exact tC_srt h
  | false => rfl
theorem tC_mg {a b : List D} (ha : tC a = true) (hb : tC b = true) : tC (mgL a b) = true := by
  cases h : tsB a && tsB b with
  | false => rw [(mg_no h).2]; rfl
  | true =>
    rw [(mg_yes h).2]
    simp only [Bool.and_eq_true] at h
    have h1 := ts_len h.1
    have h2 := ts_len h.2
    have h3 := new_len a b
    exact tC_mk (tC_app (by omega) (tC_eq hb).2 (List.all_eq_true.2 fun d hd => List.all_eq_true.1 (tC_eq ha).2 d (List.mem_filter.1 hd).1))
theorem prL_sh : ∀ {q : List (List UInt8)} {l : List D}, (∀ p ∈ q, p.length ≤ 4194304) → prL q = some l → l.all shT = true
  | [], l, _, h => by rw [prL] at h; cases h; rfl
  | p :: q, l, hs, h => by
    rw [prL] at h
    cases hp : prP p with
    | none => rw [hp] at h; exact absurd h (by simp)
    | some t =>
      rw [hp] at h
      simp only at h
      cases hq : prL q with
      | none => rw [hq] at h; exact absurd h (by simp)
      | some m =>
        rw [hq] at h
        simp only [Option.map_some, Option.some.injEq] at h
        subst h
        rw [List.all_cons, pr_sh (hs p (by simp)) hp, prL_sh (fun x hx => hs x (by simp [hx])) hq]; rfl
theorem tC_ps {s : List UInt8} (h : short s = true) : tC (psL s) = true := by
  have hl := short_le h
  unfold psL
  cases s == [] with
  | true => rfl
  | false =>
    rw [cond_false]
    cases hp : prL (spl 38 s) with
    | none => rfl
    | some m =>
      simp only
      cases ht : tsB m with
      | false => rfl
      | true => exact tC_of (by have := ts_len ht; rw [cond_true]; omega) (prL_sh (fun p hp => by have := spl_len 38 s p hp; omega) hp)
theorem short_tx (l : List D) : short (txS l) = true := by
  unfold txS
  cases h : tsB l with
  | false => rfl
  | true =>
    have h1 := joinT_len (ts_good h)
    have h2 := ts_len h
    exact short_of (by rw [cond_true]; omega)
/-! ### the laws -/
theorem mg_fail {a b : List D} (h : (mgE a b == 0) = false) : mgL a b = [] := by
  cases h0 : tsB a && tsB b with
  | false => exact (mg_no h0).2
  | true =>
    rw [(mg_yes h0).1] at h
    rw [(mg_yes h0).2]
    unfold mkL; rw [h]; rfl
end Go.Proofs.YtjbemleloffafaaGreatDoor.V

/- Rules, objects, versions: what the functions come to; what the law of later moments says. No program in sight. -/
namespace Go.Proofs.YtjbemleloffafaaGreatDoor.V
open Go
set_option maxRecDepth 100000
set_option linter.unusedVariables false
set_option linter.unusedSimpArgs false
/-! ### versions -/
structure Ver where
  id : Int
  mr : Bool
  sz : Int
  bl : Int
  dg : List D
  cr : Int
  md : Int
  un : Int
  ho : Bool
  c : Cp
  tg : List D
def lkV (v : Ver) : D := .agg [.int .i64 v.md, .int .i64 v.un, .bool v.ho]
def vD (v : Ver) : D := .agg [.int .u64 v.id, .bool v.mr, .int .i64 v.sz, .int .u64 v.bl, .agg v.dg, .int .i64 v.cr, .agg [.int .i64 v.md, .int .i64 v.un, .bool v.ho], .slice v.c v.tg]
def vOf : D → Option Ver
  | .agg [.int .u64 id, .bool mk, .int .i64 sz, .int .u64 bl, .agg dg, .int .i64 cr, .agg [.int .i64 md, .int .i64 un, .bool ho], .slice c tg] => some ⟨id, mk, sz, bl, dg, cr, md, un, ho, c, tg⟩
  | _ => none
theorem vOf_vD (v : Ver) : vOf (vD v) = some v := rfl
theorem vOf_eq {d : D} {v : Ver} (h : vOf d = some v) : d = vD v := by
  unfold vOf at h
  split at h
  · cases h; rfl
  · exact absurd h (by simp)
def isU8 : D → Bool
  | .int .u8 _ => true
  | _ => false
def dgC (l : List D) : Bool := decide (l.length = 32) && l.all isU8
def vC (d : D) : Bool := match vOf d with | some v => tC v.tg && (dgC v.dg && decide (0 ≤ v.id)) | none => false
theorem vC_ex {d : D} (h : vC d = true) : ∃ v, d = vD v ∧ tC v.tg = true := by
  unfold vC at h
  cases hv : vOf d with
  | none => rw [hv] at h; exact absurd h (by simp)
  | some v => rw [hv] at h; exact ⟨v, vOf_eq hv, (Bool.and_eq_true_iff.1 h).1⟩
theorem vC_dg {v : Ver} (h : vC (vD v) = true) : dgC v.dg = true := (Bool.and_eq_true_iff.1 (Bool.and_eq_true_iff.1 (show (tC v.tg && (dgC v.dg && decide (0 ≤ v.id))) = true from h)).2).1
theorem vC_id {v : Ver} (h : vC (vD v) = true) : 0 ≤ v.id := of_decide_eq_true (Bool.and_eq_true_iff.1 (Bool.and_eq_true_iff.1 (show (tC v.tg && (dgC v.dg && decide (0 ≤ v.id))) = true from h)).2).2
def isLk : D → Bool
  | .agg [.int .i64 _, .int .i64 _, .bool _] => true
  | _ => false
theorem isLk_ex {d : D} (h : isLk d = true) : ∃ a b c, d = .agg [.int .i64 a, .int .i64 b, .bool c] := by
  unfold isLk at h
  split at h
  · exact ⟨_, _, _, rfl⟩
  · exact absurd h (by simp)
def bindsD : D → Int → Bool
  | .agg [.int _ md, .int _ un, .bool _], t => md != 0 && decide (t < un)
  | _, _ => false
def heldD : D → Int → Bool
  | .agg [.int k md, .int k' un, .bool ho], t => ho || bindsD (.agg [.int k md, .int k' un, .bool ho]) t
  | _, _ => false
def clampZ (t : Int) : Int := bif decide (((-62135596800) : Int) < (bif decide ((253402300799 : Int) < t) then 253402300799 else t)) then bif decide ((253402300799 : Int) < t) then 253402300799 else t else ((-62135596800))
def lkB : D → Bool
  | .agg [.int _ md, .int _ un, .bool _] => bif md == 0 then un == 0 else bif md == 1 then un == clampZ un else bif md == 2 then un == clampZ un else false
  | _ => false
def dg0 : D := .agg [D.int .u8 0, D.int .u8 0, D.int .u8 0, D.int .u8 0, D.int .u8 0, D.int .u8 0, D.int .u8 0, D.int .u8 0, D.int .u8 0, D.int .u8 0, D.int .u8 0, D.int .u8 0, D.int .u8 0, D.int .u8 0, D.int .u8 0, D.int .u8 0, D.int .u8 0, D.int .u8 0, D.int .u8 0, D.int .u8 0, D.int .u8 0, D.int .u8 0, D.int .u8 0, D.int .u8 0, D.int .u8 0, D.int .u8 0, D.int .u8 0, D.int .u8 0, D.int .u8 0, D.int .u8 0, D.int .u8 0, D.int .u8 0]
def lk0 : D := .agg [.int .i64 0, .int .i64 0, .bool false]
def goodV (v : Ver) : Bool := bif v.id == 0 then false else bif v.cr != clampZ v.cr then false else
  bif v.mr then v.sz == 0 && (v.bl == 0 && (eqD (.agg v.dg) dg0 && (eqD (lkV v) lk0 && ((v.tg.length : Int) == 0))))
  else decide (v.sz ≥ 0) && (decide (v.sz ≤ 16384) && (decide (v.bl > 0) && (lkB (lkV v) && tsB v.tg)))
def vGood (d : D) : Bool := match vOf d with | some v => goodV v | none => false
def behV (v p : Ver) : Bool := decide (v.id > p.id) && decide (v.cr ≥ p.cr)
def behD (d e : D) : Bool := match vOf d, vOf e with | some v, some p => behV v p | _, _ => false
def ris1 : Option Ver → List Ver → Bool
  | _, [] => true
  | none, v :: r => goodV v && ris1 (some v) r
  | some p, v :: r => goodV v && (behV v p && ris1 (some v) r)
def vsC (l : List D) : Bool := decide (l.length ≤ 8388608) && l.all vC
def vsOf (l : List D) : List Ver := l.filterMap vOf
def risB (l : List D) : Bool := ris1 none (vsOf l)
theorem vs_ex : ∀ {l : List D}, l.all vC = true → ∃ vs : List Ver, l = vs.map vD ∧ vsOf l = vs
  | [], _ => ⟨[], rfl, rfl⟩
  | d :: r, h => by
    have h : vC d = true ∧ r.all vC = true := by simpa using h
    obtain ⟨v, rfl, _⟩ := vC_ex h.1
    obtain ⟨vs, h1, h2⟩ := vs_ex h.2
    refine ⟨v :: vs, by rw [h1]; rfl, ?_⟩
    unfold vsOf at h2 ⊢
    rw [List.filterMap_cons, vOf_vD]
    simp only
    rw [h2]
/-! ### objects -/
def keyB (s : List UInt8) : Bool := !(s == []) && (decide (s.length ≤ 200) && cleanV s)
def oKey : D → List UInt8
  | .agg [.str k, .slice _ _] => k
  | _ => []
def oVs : D → List D
  | .agg [.str _, .slice _ l] => l
  | _ => []
def oC : D → Bool
  | .agg [.str k, .slice _ l] => short k && vsC l
  | _ => false
theorem oC_ex {d : D} (h : oC d = true) : ∃ k c l, d = .agg [.str k, .slice c l] ∧ short k = true ∧ vsC l = true := by
  unfold oC at h
  split at h
  · simp only [Bool.and_eq_true] at h; exact ⟨_, _, _, rfl, h.1, h.2⟩
  · exact absurd h (by simp)
def oSnd (o : D) : Bool := keyB (oKey o) && (decide (0 < (oVs o).length) && risB (oVs o))
def cloneD (d : D) : D := match vOf d with | some v => vD { v with c := .cl } | none => d
def v0 : D := .agg [.int .u64 0, .bool false, .int .i64 0, .int .u64 0, dg0, .int .i64 0, lk0, .slice .nl []]
def latD (o : D) : D := bif oSnd o then cloneD ((oVs o).getD ((oVs o).length - 1) v0) else v0
def latE (o : D) : Int := bif oSnd o then 0 else 2
def vIs (d : D) (i : Int) : Bool := match vOf d with | some v => v.id == i | none => false
def plN : List D → Int → Int → Int
  | [], _, _ => -1
  | d :: r, i, k => bif vIs d i then k else plN r i (k + 1)
def plI (l : List D) (i : Int) : Int := plN l i 0
def plO (o : D) (i : Int) : Int := plI (oVs o) i
def vCr (d : D) : Int := match vOf d with | some v => v.cr | none => 0
def replB (o : D) (i : Int) : Bool := oSnd o && (!decide (plO o i < 0) && !(plO o i == ((oVs o).length : Int) - 1))
def replT (o : D) (i : Int) : Int := bif replB o i then vCr ((oVs o).getD (plO o i + 1).toNat v0) else 0
/-! ### rules -/
def rC : D → Bool
  | .agg [.str p, .slice _ t, .int .i64 _, .int .i64 _, .bool _] => short p && tC t
  | _ => false
theorem rC_ex {d : D} (h : rC d = true) : ∃ p c t a b m, d = .agg [.str p, .slice c t, .int .i64 a, .int .i64 b, .bool m] ∧ short p = true ∧ tC t = true := by
  unfold rC at h
  split at h
  · simp only [Bool.and_eq_true] at h; exact ⟨_, _, _, _, _, _, rfl, h.1, h.2⟩
  · exact absurd h (by simp)
def rGood : D → Bool
  | .agg [.str p, .slice _ t, .int .i64 a, .int .i64 b, .bool _] => decide (p.length ≤ 200) && (cleanV p && (tsB t && (decide (a ≥ 0) && (decide (a ≤ 36500) && (decide (b ≥ 0) && decide (b ≤ 36500))))))
  | _ => false
def rsC (l : List D) : Bool := decide (l.length ≤ 8388608) && l.all rC
def rsA (l : List D) : Bool := l.all rGood
def rsB (l : List D) : Bool := decide (l.length ≤ 8) && rsA l
def rsN : List D → Int → Int
  | [], _ => -1
  | r :: l, k => bif rGood r then rsN l (k + 1) else k
def rsI (l : List D) : Int := rsN l 0
theorem rsN_all : ∀ (l : List D) (k : Int), 0 ≤ k → decide (rsN l k ≥ 0) = !rsA l
  | [], k, h => rfl
  | r :: l, k, h => by
    rw [rsN]
    unfold rsA
    rw [List.all_cons]
    cases rGood r with
    | true => rw [cond_true, Bool.true_and]; exact rsN_all l (k + 1) (by omega)
    | false => rw [cond_false, Bool.false_and]; exact decide_eq_true h
def hpB (s p : List UInt8) : Bool := decide (p.length ≤ s.length) && (s.take p.length == p)
def vTg (d : D) : List D := match vOf d with | some v => v.tg | none => []
def rPre : D → List UInt8
  | .agg [.str p, .slice _ _, .int _ _, .int _ _, .bool _] => p
  | _ => []
def rTg : D → List D
  | .agg [.str _, .slice _ t, .int _ _, .int _ _, .bool _] => t
  | _ => []
def rDays : D → Int
  | .agg [.str _, .slice _ _, .int _ a, .int _ _, .bool _] => a
  | _ => 0
def rOld : D → Int
  | .agg [.str _, .slice _ _, .int _ _, .int _ b, .bool _] => b
  | _ => 0
def rMk : D → Bool
  | .agg [.str _, .slice _ _, .int _ _, .int _ _, .bool m] => m
  | _ => false
def meantD (r o : D) : Bool := latE o == 0 && (hpB (oKey o) (rPre r) && withinB (rTg r) (vTg (latD o)))
/-! ### events -/
def evD (t id : Int) (lk : D) : D := .agg [.int .i64 t, .int .u64 id, lk]
def addD (a b : Int) : Int := IntKind.wrap .i64 (a + IntKind.wrap .i64 (b * 86400))
/-- what a rule does to a version -/
def ev1 (o : D) (v : Ver) (r : D) : List D := bif !meantD r o then [] else bif replB o v.id && decide (rOld r > 0) then [evD (addD (replT o v.id) (rOld r)) v.id (lkV v)]
  else bif !replB o v.id && (v.mr && (rMk r && ((oVs o).length : Int) == 1)) then [evD (-62135596800) v.id (lkV v)] else []
def evV (rl : List D) (o : D) (v : Ver) : List D := rl.flatMap (ev1 o v)
def ev2 (o : D) (v : Ver) (r : D) : List D := bif meantD r o && (decide (rDays r > 0) && !v.mr) then [evD (addD v.cr (rDays r)) 0 lk0] else []
def newV (o : D) : Ver := ((vsOf (oVs o)).getLast?).getD ⟨0, false, 0, 0, [], 0, 0, 0, false, .nl, []⟩
def evsL (rl : List D) (o : D) : List D := (vsOf (oVs o)).flatMap (evV rl o) ++ rl.flatMap (ev2 o (newV o))
def evT : D → Int
  | .agg [.int _ t, .int _ _, _] => t
  | _ => 0
def evI : D → Int
  | .agg [.int _ _, .int _ i, _] => i
  | _ => 0
def evK : D → D
  | .agg [.int _ _, .int _ _, l] => l
  | _ => .agg []
def isDue (t : Int) (x : D) : Bool := !(decide (t < evT x) || heldD (evK x) t)
def dueF (E : List D) (t : Int) : Option D := E.find? (isDue t)
def goodB (rl : List D) (o : D) : Bool := rsB rl && oSnd o
def dueI (rl : List D) (o : D) (t : Int) : Int := bif goodB rl o then (match dueF (evsL rl o) t with | some x => evI x | none => 0) else 0
def dueM (rl : List D) (o : D) (t : Int) : Bool := bif goodB rl o then (match dueF (evsL rl o) t with | some x => evI x == 0 | none => false) else false
def dueE (rl : List D) (o : D) : Int := bif goodB rl o then 0 else 2
/-! ### the law -/
/-- held, as the law asks it -/
def heldL (v : Ver) (t : Int) : Bool := v.ho || (v.md != 0 && decide (t < v.un))
theorem held_lk (v : Ver) (t : Int) : heldD (lkV v) t = heldL v t := rfl
theorem ris_good : ∀ {l : List Ver} {o : Option Ver}, ris1 o l = true → ∀ v ∈ l, goodV v = true
  | [], _, _, v, hv => by cases hv
  | w :: r, o, h, v, hv => by
    have hh : goodV w = true ∧ ris1 (some w) r = true := by
      cases o with
      | none => simp only [ris1, Bool.and_eq_true] at h; exact h
      | some p => simp only [ris1, Bool.and_eq_true] at h; exact ⟨h.1, h.2.2⟩
    rcases List.mem_cons.1 hv with rfl | hv
    · exact hh.1
    · exact ris_good hh.2 v hv
theorem ris_lt : ∀ {l : List Ver} {p : Ver}, ris1 (some p) l = true → ∀ v ∈ l, p.id < v.id
  | [], _, _, v, hv => by cases hv
  | w :: r, p, h, v, hv => by
    simp only [ris1, behV, Bool.and_eq_true, decide_eq_true_eq] at h
    rcases List.mem_cons.1 hv with rfl | hv
    · exact h.2.1.1
    · have := ris_lt h.2.2 v hv; omega
theorem ris_pw : ∀ {l : List Ver} {o : Option Ver}, ris1 o l = true → l.Pairwise fun a b => a.id < b.id
  | [], _, _ => .nil
  | w :: r, o, h => by
    have hh : ris1 (some w) r = true := by
      cases o with
      | none => simp only [ris1, Bool.and_eq_true] at h; exact h.2
      | some p => simp only [ris1, Bool.and_eq_true] at h; exact h.2.2
    exact List.pairwise_cons.2 ⟨fun v hv => ris_lt hh v hv, ris_pw hh⟩
theorem good_id {v : Ver} (h : goodV v = true) : v.id ≠ 0 := by
  intro e
  unfold goodV at h
  rw [e] at h
  exact absurd h (by simp)
theorem ris_uniq {l : List Ver} (h : l.Pairwise fun a b => a.id < b.id) : ∀ a ∈ l, ∀ b ∈ l, a.id = b.id → a = b := by
  induction l with
  | nil => intro a ha; cases ha
  | cons x r ih =>
    have hc := List.pairwise_cons.1 h
    intro a ha b hb e
    rcases List.mem_cons.1 ha with ea | ha' <;> rcases List.mem_cons.1 hb with eb | hb'
    · rw [ea, eb]
    · have := hc.1 b hb'; rw [ea] at e; omega
    · have := hc.1 a ha'; rw [eb] at e; omega
    · exact ih hc.2 a ha' b hb' e
theorem mem_evV {rl : List D} {o : D} {v : Ver} {x : D} (h : x ∈ evV rl o v) : evI x = v.id ∧ evK x = lkV v := by
  unfold evV at h
  obtain ⟨r, _, h⟩ := List.mem_flatMap.1 h
  unfold ev1 at h
  cases hm : meantD r o with
  | false => rw [hm] at h; cases h
  | true =>
    rw [hm] at h
    cases h1 : replB o v.id && decide (rOld r > 0) with
    | true => rw [h1] at h; simp only [Bool.not_true, cond_false, cond_true, List.mem_singleton] at h; subst h; exact ⟨rfl, rfl⟩
    | false =>
      rw [h1] at h
      cases h2 : !replB o v.id && (v.mr && (rMk r && ((oVs o).length : Int) == 1)) with
      | true => rw [h2] at h; simp only [Bool.not_true, cond_false, cond_true, List.mem_singleton] at h; subst h; exact ⟨rfl, rfl⟩
      | false => rw [h2] at h; cases h
theorem mem_ev2 {rl : List D} {o : D} {v : Ver} {x : D} (h : x ∈ rl.flatMap (ev2 o v)) : evI x = 0 := by
  obtain ⟨r, _, h⟩ := List.mem_flatMap.1 h
  unfold ev2 at h
  cases h1 : meantD r o && (decide (rDays r > 0) && !v.mr) with
  | true => rw [h1] at h; simp only [cond_true, List.mem_singleton] at h; subst h; rfl
  | false => rw [h1] at h; cases h
/-- the events' numbers: those of versions, rising; then none -/
def Rise (E : List D) : Prop := E.Pairwise fun x y => evI y = 0 ∨ (evI x ≠ 0 ∧ evI x ≤ evI y)
theorem rise_all {rl : List D} {o : D} (h : risB (oVs o) = true) : Rise (evsL rl o) := by
  unfold Rise evsL
  have hp := ris_pw h
  have hg := ris_good h
  have h1 : ∀ vs : List Ver, (∀ v ∈ vs, goodV v = true) → vs.Pairwise (fun a b => a.id < b.id) → (vs.flatMap (evV rl o)).Pairwise fun x y => evI y = 0 ∨ (evI x ≠ 0 ∧ evI x ≤ evI y) := by
    intro vs
    induction vs with
    | nil => intro _ _; exact .nil
    | cons v r ih =>
      intro hg hp
      have hc := List.pairwise_cons.1 hp
      rw [List.flatMap_cons]
      refine List.pairwise_append.2 ⟨?_, ih (fun w hw => hg w (by simp [hw])) hc.2, ?_⟩
      · have hv := good_id (hg v (by simp))
        refine List.Pairwise.imp_of_mem (R := fun _ _ => True) ?_ (List.pairwise_of_forall fun _ _ => trivial)
        intro x y hx hy _
        rw [(mem_evV hx).1, (mem_evV hy).1]
        exact .inr ⟨hv, Int.le_refl _⟩
      · intro x hx y hy
        obtain ⟨w, hw, hy⟩ := List.mem_flatMap.1 hy
        rw [(mem_evV hx).1, (mem_evV hy).1]
        have := hc.1 w hw
        exact .inr ⟨good_id (hg v (by simp)), by omega⟩
  refine List.pairwise_append.2 ⟨h1 _ hg hp, ?_, ?_⟩
  · refine List.Pairwise.imp_of_mem (R := fun _ _ => True) ?_ (List.pairwise_of_forall fun _ _ => trivial)
    intro x y _ hy _
    exact .inl (mem_ev2 hy)
  · intro x _ y hy
    exact .inl (mem_ev2 hy)
theorem due_later {t u : Int} (h : t ≤ u) {x : D} (hl : ∃ a b c, evK x = .agg [.int .i64 a, .int .i64 b, .bool c]) (hx : isDue t x = true) : isDue u x = true := by
  obtain ⟨a, b, c, e⟩ := hl
  unfold isDue at hx ⊢
  rw [e] at hx ⊢
  simp only [heldD, bindsD, Bool.not_eq_true', Bool.or_eq_false_iff, decide_eq_false_iff_not, Bool.and_eq_false_iff] at hx ⊢
  refine ⟨by omega, hx.2.1, ?_⟩
  rcases hx.2.2 with h1 | h1
  · exact .inl h1
  · exact .inr (by omega)
theorem due_mono {E : List D} {t u : Int} (h : t ≤ u) (hl : ∀ x ∈ E, ∃ a b c, evK x = .agg [.int .i64 a, .int .i64 b, .bool c]) (hr : Rise E) {x : D} (hx : dueF E t = some x) : ∃ y, dueF E u = some y ∧ (y = x ∨ evI x = 0 ∨ (evI y ≠ 0 ∧ evI y ≤ evI x)) := by
  unfold Rise at hr
  induction E with
  | nil => simp [dueF] at hx
  | cons z E ih =>
    unfold dueF at hx ⊢
    rw [List.find?_cons] at hx ⊢
    have hc := List.pairwise_cons.1 hr
    cases hz : isDue t z with
    | true =>
      rw [hz] at hx
      have ez : z = x := Option.some.inj hx
      rw [due_later h (hl z (by simp)) hz]
      exact ⟨z, rfl, .inl ez⟩
    | false =>
      rw [hz] at hx
      cases hu : isDue u z with
      | true =>
        have hm := List.mem_of_find?_eq_some hx
        refine ⟨z, rfl, ?_⟩
        rcases hc.1 x hm with h1 | h1
        · exact .inr (.inl h1)
        · exact .inr (.inr h1)
      | false => exact ih (fun x hx => hl x (by simp [hx])) hc.2 hx
theorem lk_all (rl : List D) (o : D) : ∀ x ∈ evsL rl o, ∃ a b c, evK x = .agg [.int .i64 a, .int .i64 b, .bool c] := by
  intro x hx
  unfold evsL at hx
  rcases List.mem_append.1 hx with hx | hx
  · obtain ⟨v, _, hx⟩ := List.mem_flatMap.1 hx
    rw [(mem_evV hx).2]
    exact ⟨_, _, _, rfl⟩
  · obtain ⟨r, _, hx⟩ := List.mem_flatMap.1 hx
    unfold ev2 at hx
    cases h1 : meantD r o && (decide (rDays r > 0) && !(newV o).mr) with
    | true => rw [h1] at hx; simp only [cond_true, List.mem_singleton] at hx; subst hx; exact ⟨_, _, _, rfl⟩
    | false => rw [h1] at hx; cases hx
theorem snd_ris {o : D} (h : oSnd o = true) : risB (oVs o) = true := by
  unfold oSnd at h
  simp only [Bool.and_eq_true] at h
  exact h.2.2
/-- what is due is not held -/
theorem due_free {rl : List D} {o : D} {t : Int} (hg : goodB rl o = true) : ∀ v ∈ vsOf (oVs o), v.id = dueI rl o t → heldL v t = false := by
  intro v hv e
  have hs : oSnd o = true := by unfold goodB at hg; simp only [Bool.and_eq_true] at hg; exact hg.2
  have hr := snd_ris hs
  have hv0 := good_id (ris_good hr v hv)
  unfold dueI at e
  rw [hg, cond_true] at e
  cases hd : dueF (evsL rl o) t with
  | none => rw [hd] at e; exact absurd e hv0
  | some x =>
    rw [hd] at e
    simp only at e
    have hx := List.mem_of_find?_eq_some hd
    have hdue := List.find?_some hd
    unfold evsL at hx
    rcases List.mem_append.1 hx with hx | hx
    · obtain ⟨w, hw, hx⟩ := List.mem_flatMap.1 hx
      obtain ⟨h1, h2⟩ := mem_evV hx
      have : v = w := ris_uniq (ris_pw hr) v hv w hw (e.trans h1)
      subst this
      unfold isDue at hdue
      rw [h2, held_lk] at hdue
      simp only [Bool.not_eq_true', Bool.or_eq_false_iff] at hdue
      exact hdue.2
    · rw [mem_ev2 hx] at e; exact absurd e hv0
theorem due_law {rl : List D} {o : D} {t u : Int} (hg : goodB rl o = true) (h : t ≤ u) :
    (dueI rl o t ≠ 0 → dueI rl o u ≠ 0 ∧ dueI rl o u ≤ dueI rl o t) ∧ (dueI rl o t = 0 → dueM rl o t = true → dueM rl o u = true ∨ dueI rl o u ≠ 0) := by
  have hs : oSnd o = true := by unfold goodB at hg; simp only [Bool.and_eq_true] at hg; exact hg.2
  have hr := rise_all (rl := rl) (snd_ris hs)
  unfold dueI dueM
  rw [hg]
  simp only [cond_true]
  cases hd : dueF (evsL rl o) t with
  | none => exact ⟨fun h0 => absurd rfl h0, fun _ h0 => by cases h0⟩
  | some x =>
    obtain ⟨y, hy, hyx⟩ := due_mono h (lk_all rl o) hr hd
    rw [hy]
    simp only
    refine ⟨fun h0 => ?_, fun _ _ => ?_⟩
    · rcases hyx with rfl | h1 | h1
      · exact ⟨h0, Int.le_refl _⟩
      · exact absurd h1 h0
      · exact h1
    · by_cases h2 : evI y = 0
      · rw [h2]; exact .inl rfl
      · exact .inr h2
end Go.Proofs.YtjbemleloffafaaGreatDoor.V
