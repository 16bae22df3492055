/- Escaping and reading back, over lists of bytes; what the machine over values makes of the loops. -/
import Derived.Test.YtjbemleloffafaaDoorEsB
import Derived.Test.YtjbemleloffafaaDoorGrE
namespace Go.Proofs.YtjbemleloffafaaDoor.V
open Go
set_option maxRecDepth 100000
set_option linter.unusedVariables false
set_option linter.unusedSimpArgs false
variable {mx : Int}

theorem bytesD_snoc (m : List UInt8) (c : UInt8) : bytesD (m ++ [c]) = bytesD m ++ [.int .u8 c.toNat] := by simp [bytesD]
theorem bytesD_len (m : List UInt8) : (bytesD m).length = m.length := by simp [bytesD]
theorem unBytes_bytesD : ∀ l : List UInt8, unBytes (bytesD l) = some l
  | [] => rfl
  | c :: r => by
    have ih := unBytes_bytesD r
    unfold bytesD at ih ⊢
    simp only [List.map_cons, unBytes, ih, Option.map_some, Int.toNat_natCast, UInt8.ofNat_toNat]
theorem kBytes_bytesD {R : Type} (l : List UInt8) (K : List UInt8 → Option R) : kBytes (bytesD l) K = K l := by unfold kBytes; rw [unBytes_bytesD]
theorem byte_le (c : UInt8) : c.toNat ≤ 255 := by have := c.toNat_lt; omega
def hxL : List UInt8 := [48, 49, 50, 51, 52, 53, 54, 55, 56, 57, 65, 66, 67, 68, 69, 70]
def hx (k : Nat) : UInt8 := hxL.getD k 0
def plainB (c : UInt8) : Bool := plainZ (c.toNat : Int)
def encB (c : UInt8) : List UInt8 := if plainB c = true then [c] else [37, hx (c.toNat / 16), hx (c.toNat % 16)]
def escV : List UInt8 → List UInt8
  | [] => []
  | c :: r => encB c ++ escV r
def digV (c : UInt8) : Int := digitZ (c.toNat : Int)
def byteV (h l : UInt8) : UInt8 := UInt8.ofNat (digV h * 16 + digV l).toNat
def unV : List UInt8 → Option (List UInt8)
  | [] => some []
  | [c] => if c = 37 then none else if plainB c = true then some [c] else none
  | [c, d] => if c = 37 then none else if plainB c = true then (unV [d]).map (c :: ·) else none
  | c :: h :: l :: r => if c = 37 then (if digV h < 0 ∨ digV l < 0 then none else if plainB (byteV h l) = true then none else (unV r).map (byteV h l :: ·))
      else if plainB c = true then (unV (h :: l :: r)).map (c :: ·) else none
theorem unV_plain {c : UInt8} (hc : c ≠ 37) (hp : plainB c = true) : ∀ r : List UInt8, unV (c :: r) = (unV r).map (c :: ·)
  | [] => by simp [unV, hc, hp]
  | [d] => by simp [unV, hc, hp]
  | h :: l :: r => by simp only [unV, if_neg hc, if_pos hp]
theorem unV_bad {c : UInt8} (hc : c ≠ 37) (hp : plainB c = false) : ∀ r : List UInt8, unV (c :: r) = none
  | [] => by simp [unV, hc, hp]
  | [d] => by simp [unV, hc, hp]
  | h :: l :: r => by simp [unV, hc, hp]

/-! ### closed facts, byte by byte -/
theorem idx_mid2 {R : Type} {α : Type} (pre r : List α) (c d e : α) (K : α → Option R) : idx (pre ++ c :: d :: e :: r) ((pre.length : Int) + 2) K = K e :=
  idx_at K (by omega) (by rw [show ((pre.length : Int) + 2).toNat = pre.length + 2 by omega, List.getElem?_append_right (by omega)]; simp)
theorem bytesD_app (a b : List UInt8) : bytesD (a ++ b) = bytesD a ++ bytesD b := by simp [bytesD]
theorem idx_bytes {R : Type} (pre r : List UInt8) (c : UInt8) (K : D → Option R) : idx (bytesD (pre ++ c :: r)) (pre.length : Int) K = K (.int .u8 c.toNat) := by
  rw [bytesD_app, ← bytesD_len pre]
  exact idx_mid _ _ _ K
theorem among_plain (c : UInt8) : amongZ ([97, 98, 99, 100, 101, 102, 103, 104, 105, 106, 107, 108, 109, 110, 111, 112, 113, 114, 115, 116, 117, 118, 119, 120, 121, 122, 65, 66, 67, 68, 69, 70, 71, 72, 73, 74, 75, 76, 77, 78, 79, 80, 81, 82, 83, 84, 85, 86, 87, 88, 89, 90, 48, 49, 50, 51, 52, 53, 54, 55, 56, 57, 45, 46, 95, 47] : List UInt8) (c.toNat : Int) = plainB c :=
  (by decide +kernel : ∀ n : Nat, n < 256 → amongZ ([97, 98, 99, 100, 101, 102, 103, 104, 105, 106, 107, 108, 109, 110, 111, 112, 113, 114, 115, 116, 117, 118, 119, 120, 121, 122, 65, 66, 67, 68, 69, 70, 71, 72, 73, 74, 75, 76, 77, 78, 79, 80, 81, 82, 83, 84, 85, 86, 87, 88, 89, 90, 48, 49, 50, 51, 52, 53, 54, 55, 56, 57, 45, 46, 95, 47] : List UInt8) (n : Int) = plainZ (n : Int)) c.toNat c.toNat_lt
theorem hi_ok {R : Type} (c : UInt8) (K : UInt8 → Option R) : idx ([48, 49, 50, 51, 52, 53, 54, 55, 56, 57, 65, 66, 67, 68, 69, 70] : List UInt8) (shrV .u8 (c.toNat : Int) 4) K = K (hx (c.toNat / 16)) := by
  have h := (by decide +kernel : ∀ n : Nat, n < 256 → 0 ≤ shrV .u8 (n : Int) 4 ∧ hxL[(shrV .u8 (n : Int) 4).toNat]? = some (hx (n / 16))) c.toNat c.toNat_lt
  exact idx_at K h.1 h.2
theorem lo_ok {R : Type} (c : UInt8) (K : UInt8 → Option R) : idx ([48, 49, 50, 51, 52, 53, 54, 55, 56, 57, 65, 66, 67, 68, 69, 70] : List UInt8) (IntKind.wrap .u8 ((BitVec.ofInt 8 (c.toNat : Int) &&& BitVec.ofInt 8 15).toNat : Int)) K = K (hx (c.toNat % 16)) := by
  have h := (by decide +kernel : ∀ n : Nat, n < 256 → 0 ≤ IntKind.wrap .u8 ((BitVec.ofInt 8 (n : Int) &&& BitVec.ofInt 8 15).toNat : Int) ∧ hxL[(IntKind.wrap .u8 ((BitVec.ofInt 8 (n : Int) &&& BitVec.ofInt 8 15).toNat : Int)).toNat]? = some (hx (n % 16))) c.toNat c.toNat_lt
  exact idx_at K h.1 h.2
theorem room_ok {n : Nat} (h : n ≤ 70368744177664) : roomB n 1 = true := by
  unfold roomB
  simp only [Bool.and_eq_true]
  exact ⟨rfl, decide_eq_true (by omega)⟩
theorem text_bytes {l : List UInt8} (h0 : l ≠ []) (h : l.length ≤ 70368744177664) : textB (bytesD l) = true ∧ unB (bytesD l) = l := by
  unfold textB unB
  rw [unBytes_bytesD, bytesD_len]
  refine ⟨?_, rfl⟩
  simp only [Option.isSome_some, Bool.true_and, Bool.and_eq_true]
  refine ⟨?_, decide_eq_true (by omega)⟩
  cases l with
  | nil => exact absurd rfl h0
  | cons a l => simp [Nat.blt_eq]
theorem d37 : D.int .u8 37 = D.int .u8 (((37 : UInt8).toNat : Nat) : Int) := rfl

/-! ### label.Escape -/
theorem esc_goes : ∀ (rest pre out s : List UInt8) (i : Int), s = pre ++ rest → i = (pre.length : Int) → s.length ≤ 1099511627776 → out ≠ [] → out.length + 3 * rest.length ≤ 4398046511104 →
    Goes (Γ mx) Hesc 57 3 ⟨[(3, .ptr 0 [] 108), (7, .sl 5 .any (bytesD s)), (8, .i .i64 (s.length : Int)), (9, .i .i64 i)], [some (.box 108 (.agg 108 [.ptr 0 [] 108, .ref 5 1])), some (.arr 5 (bytesD out) false)]⟩ (.s (out ++ escV rest), [])
  | [], pre, out, s, i, hs, hi, hl, h0, hb => by
    refine Goes.step ⟨0, ?_⟩
    rw [r57_3b]
    subst hs hi
    have d1 : decide ((pre.length : Int) < (pre.length : Int)) = false := decide_eq_false (by omega)
    obtain ⟨t1, t2⟩ := text_bytes h0 (by simp at hb; omega)
    simp only [List.append_nil, d1, cond_false, t1, t2, cond_true, escV]
  | c :: r, pre, out, s, i, hs, hi, hl, h0, hb => by
    subst hs hi
    simp only [List.length_append, List.length_cons] at hl hb
    refine Goes.step ?_
    have d1 : decide ((pre.length : Int) < ((pre ++ c :: r).length : Int)) = true := decide_eq_true (by simp <;> omega)
    have hw : IntKind.wrap .i64 ((pre.length : Int) + 1) = (pre.length : Int) + 1 := wrap_id (by omega) (by omega)
    cases hp : plainB c with
    | true =>
      obtain ⟨k, hk⟩ := esc_goes r (pre ++ [c]) (out ++ [c]) (pre ++ c :: r) ((pre.length : Int) + 1) (by simp) (by simp) (by simp <;> omega) (by simp) (by simp <;> omega)
      refine ⟨k, ?_⟩
      rw [r57_3b]
      simp only [d1, cond_true, idx_bytes, dInt, kEq, among_plain, hp, hw, bytesD_len, room_ok (show out.length + 1 ≤ 70368744177664 by omega)]
      rw [← bytesD_snoc, hk]
      simp [escV, encB, hp]
    | false =>
      obtain ⟨k, hk⟩ := esc_goes r (pre ++ [c]) (out ++ [37] ++ [hx (c.toNat / 16)] ++ [hx (c.toNat % 16)]) (pre ++ c :: r) ((pre.length : Int) + 1) (by simp) (by simp) (by simp <;> omega) (by simp) (by simp <;> omega)
      refine ⟨k, ?_⟩
      rw [r57_3b]
      simp only [d1, cond_true, cond_false, idx_bytes, dInt, kEq, among_plain, hp, hw, hi_ok, lo_ok]
      have q1 : roomB (out.length + 1) 1 = true := room_ok (by omega)
      have q2 : roomB ((out ++ [37]).length + 1) 1 = true := room_ok (by simp only [List.length_append, List.length_cons, List.length_nil]; omega)
      have q3 : roomB ((out ++ [37] ++ [hx (c.toNat / 16)]).length + 1) 1 = true := room_ok (by simp only [List.length_append, List.length_cons, List.length_nil]; omega)
      rw [d37, ← bytesD_snoc, ← bytesD_snoc, ← bytesD_snoc, bytesD_len, bytesD_len, bytesD_len, q1, q2, q3]
      simp only [cond_true]
      rw [hk]
      simp [escV, encB, hp]
theorem esc_ret {s : List UInt8} (hl : s.length ≤ 1099511627776) : RetX (Γ mx) 57 [.s s] [] (.s (escV s)) [] := by
  refine ret_goes hP hZ esc_ok (by kernel_rfl) ?_
  suffices h : Goes (Γ mx) Hesc 57 3 ⟨[(3, .ptr 0 [] 108), (7, .sl 5 .any (bytesD s)), (8, .i .i64 (((bytesD s).length : Int))), (9, .i .i64 0)], [some (.box 108 (.agg 108 [.pnil, .sl 5 .nl []]))]⟩ (.s (escV s), []) by
    obtain ⟨n, hn⟩ := h
    exact ⟨n, by rw [r57]; exact hn⟩
  rw [bytesD_len]
  refine Goes.step ?_
  cases s with
  | nil => exact ⟨0, by rw [r57_3a]; rfl⟩
  | cons c r =>
    simp only [List.length_cons] at hl
    have d1 : decide ((0 : Int) < ((c :: r).length : Int)) = true := decide_eq_true (by simp <;> omega)
    have hw : IntKind.wrap .i64 ((0 : Int) + 1) = 1 := by decide
    have hi : ∀ {R : Type} (K : D → Option R), idx (bytesD (c :: r)) 0 K = K (.int .u8 c.toNat) := fun K => idx_bytes [] r c K
    cases hp : plainB c with
    | true =>
      obtain ⟨k, hk⟩ := esc_goes r [c] [c] (c :: r) 1 (by simp) (by simp) (by simp <;> omega) (by simp) (by simp <;> omega)
      refine ⟨k, ?_⟩
      rw [r57_3a]
      simp only [d1, cond_true, hi, dInt, kEq, among_plain, hp, hw]
      rw [show [D.int .u8 (c.toNat : Int)] = bytesD [c] from rfl, hk]
      simp [escV, encB, hp]
    | false =>
      obtain ⟨k, hk⟩ := esc_goes r [c] [37, hx (c.toNat / 16), hx (c.toNat % 16)] (c :: r) 1 (by simp) (by simp) (by simp <;> omega) (by simp) (by simp <;> omega)
      refine ⟨k, ?_⟩
      rw [r57_3a]
      simp only [d1, cond_true, cond_false, hi, dInt, kEq, among_plain, hp, hw, hi_ok, lo_ok]
      have q2 : roomB ([D.int .u8 37].length + 1) 1 = true := rfl
      have q3 : roomB ([D.int .u8 37, D.int .u8 ((hx (c.toNat / 16)).toNat : Int)].length + 1) 1 = true := rfl
      rw [q2, q3]
      simp only [cond_true]
      rw [show [D.int .u8 37, D.int .u8 ((hx (c.toNat / 16)).toNat : Int), D.int .u8 ((hx (c.toNat % 16)).toNat : Int)] = bytesD [37, hx (c.toNat / 16), hx (c.toNat % 16)] from rfl, hk]
      simp [escV, encB, hp]
end Go.Proofs.YtjbemleloffafaaDoor.V
