/- Grants: contracts: pieces of patterns. -/
import Derived.Test.YtjbemleloffafaaDoorGrB
namespace Go.Proofs.YtjbemleloffafaaDoor.V
open Go
set_option maxRecDepth 100000
set_option linter.unusedVariables false
set_option linter.unusedSimpArgs false
variable {mx : Int}
theorem none_ok : CallsOK (Γ mx) (runS []) := specs_ok .nil
theorem wrapI {n : Int} (h0 : -9223372036854775808 ≤ n) (h1 : n ≤ 9223372036854775807) : IntKind.i64.wrap n = n := by
  rw [IntKind.wrap_i64]; omega
theorem idx_at {R : Type} {α : Type} {l : List α} {n : Int} {a : α} (K : α → Option R) (h0 : 0 ≤ n) (h : l[n.toNat]? = some a) : idx l n K = K a := by
  unfold idx; rw [decide_eq_true h0]
  show lGet l n.toNat K = K a
  unfold lGet; rw [h]
theorem idx_mid {R : Type} {α : Type} (pre r : List α) (c : α) (K : α → Option R) : idx (pre ++ c :: r) (pre.length : Int) K = K c := idx_at K (by omega) (by simp)
theorem idx_mid1 {R : Type} {α : Type} (pre r : List α) (c d : α) (K : α → Option R) : idx (pre ++ c :: d :: r) ((pre.length : Int) + 1) K = K d :=
  idx_at K (by omega) (by rw [show ((pre.length : Int) + 1).toNat = pre.length + 1 by omega, List.getElem?_append_right (by omega)]; simp)
theorem room16 {n : Nat} (h : n ≤ 100000) : roomB n 16 = true := by
  unfold roomB
  simp only [Bool.and_eq_true, decide_eq_true_eq]
  exact ⟨rfl, by omega⟩
theorem u8_ne {c : UInt8} {k : Nat} (hk : k < 256) (h : ¬ c = UInt8.ofNat k) : ((c.toNat : Int) == (k : Int)) = false := by
  apply Bool.eq_false_iff.2
  intro he
  have he := eq_of_beq he
  apply h
  apply UInt8.toNat_inj.1
  rw [UInt8.toNat_ofNat']
  omega
theorem g97b (s : List UInt8) (hs : s.length ≤ 200) : ∀ (n : Nat) (rest pre : List UInt8) (l : List D) (i : Int), rest.length ≤ n → s = pre ++ rest → i = (pre.length : Int) → l.length + rest.length ≤ 200 →
    Goes (Γ mx) (runS []) 97 5 ⟨[(0, .s s), (4, .ref 142 0), (5, .i .i64 i)], [some (.arr 142 l false)]⟩ (bif (pcs rest).2 then (.tuple [.sl 142 .any (l ++ (pcs rest).1.map pD), .b true], []) else (.tuple [.snil, .b false], []))
  | n, [], pre, l, i, hn, he, hi, hl => by
    subst hi
    refine Goes.step ⟨0, ?_⟩
    rw [r97_5b, decide_eq_false (show ¬ (pre.length : Int) < (s.length : Int) by rw [he]; simp)]
    simp [pcs]
  | 0, _ :: _, pre, l, i, hn, he, hi, hl => by simp at hn
  | n + 1, c :: r, pre, l, i, hn, he, hi, hl => by
    subst hi
    have hlen : s.length = pre.length + (r.length + 1) := by rw [he]; simp
    have hid : ∀ {R : Type} (K : UInt8 → Option R), idx s (pre.length : Int) K = K c := fun K => by rw [he]; exact idx_mid pre r c K
    have hw : IntKind.wrap .i64 ((pre.length : Int) + 1) = (pre.length : Int) + 1 := wrapI (by omega) (by omega)
    have hw2 : IntKind.wrap .i64 ((pre.length : Int) + 1 + 1) = (pre.length : Int) + 1 + 1 := wrapI (by omega) (by omega)
    have hwl : IntKind.wrap .i64 ((s.length : Int) - 1) = (s.length : Int) - 1 := wrapI (by omega) (by omega)
    simp only [List.length_cons] at hn hl
    rw [pcs_cons]
    by_cases h42 : c = 42
    · subst h42
      obtain ⟨k, hk⟩ := g97b s hs n r (pre ++ [42]) (l ++ [pD (2, 0)]) ((pre.length : Int) + 1) (by omega) (by rw [he]; simp) (by simp) (by simp only [List.length_append, List.length_cons, List.length_nil]; omega)
      refine Goes.step ⟨k, ?_⟩
      rw [r97_5b, decide_eq_true (show (pre.length : Int) < (s.length : Int) by omega), cond_true]
      simp only [hid, hw, if_pos]
      show (bif true then _ else _) = _
      rw [room16 (by omega)]; rw [cond_true]
      refine hk.trans ?_
      simp
    by_cases h63 : c = 63
    · subst h63
      obtain ⟨k, hk⟩ := g97b s hs n r (pre ++ [63]) (l ++ [pD (1, 0)]) ((pre.length : Int) + 1) (by omega) (by rw [he]; simp) (by simp) (by simp only [List.length_append, List.length_cons, List.length_nil]; omega)
      refine Goes.step ⟨k, ?_⟩
      rw [r97_5b, decide_eq_true (show (pre.length : Int) < (s.length : Int) by omega), cond_true]
      simp only [hid, hw, if_pos, if_neg h42]
      show (bif false then _ else (bif true then _ else _)) = _
      rw [room16 (by omega)]; rw [cond_false, cond_true]
      refine hk.trans ?_
      simp
    have e42 := u8_ne (k := 42) (by omega) h42
    have e63 := u8_ne (k := 63) (by omega) h63
    rw [if_neg h42, if_neg h63]
    by_cases h92 : c = 92
    · subst h92
      rw [if_pos rfl]
      match r, he, hlen, hn, hl with
      | [], he, hlen, hn, hl =>
        refine Goes.step ⟨0, ?_⟩
        rw [r97_5b, decide_eq_true (show (pre.length : Int) < (s.length : Int) by omega), cond_true]
        simp only [hid, hw, hwl]
        have e1 : (((pre.length : Int) + 1) == (s.length : Int)) = true := by rw [beq_iff_eq]; simp only [List.length_nil] at hlen; omega
        have e2 : ((pre.length : Int) == (s.length : Int) - 1) = true := by rw [beq_iff_eq]; simp only [List.length_nil] at hlen; omega
        first | rw [e1] | rw [e2]
        rfl
      | d :: r', he, hlen, hn, hl =>
        simp only [List.length_cons] at hlen hn hl
        have hid1 : ∀ {R : Type} (K : UInt8 → Option R), idx s ((pre.length : Int) + 1) K = K d := fun K => by rw [he]; exact idx_mid1 pre r' 92 d K
        obtain ⟨k, hk⟩ := g97b s hs n r' (pre ++ [92, d]) (l ++ [pD (0, d)]) ((pre.length : Int) + 1 + 1) (by omega) (by rw [he]; simp) (by simp; omega) (by simp only [List.length_append, List.length_cons, List.length_nil]; omega)
        refine Goes.step ⟨k, ?_⟩
        rw [r97_5b, decide_eq_true (show (pre.length : Int) < (s.length : Int) by omega), cond_true]
        simp only [hid, hw, hw2, hwl, hid1]
        have e1 : (((pre.length : Int) + 1) == (s.length : Int)) = false := by apply Bool.eq_false_iff.2; intro h; have := eq_of_beq h; omega
        have e2 : ((pre.length : Int) == (s.length : Int) - 1) = false := by apply Bool.eq_false_iff.2; intro h; have := eq_of_beq h; omega
        first | rw [e1] | rw [e2]
        show (bif false then _ else (bif false then _ else (bif true then (bif false then _ else _) else _))) = _
        rw [room16 (by omega)]; simp only [cond_false, cond_true]
        refine hk.trans ?_
        simp
    · have e92 := u8_ne (k := 92) (by omega) h92
      obtain ⟨k, hk⟩ := g97b s hs n r (pre ++ [c]) (l ++ [pD (0, c)]) ((pre.length : Int) + 1) (by omega) (by rw [he]; simp) (by simp) (by simp only [List.length_append, List.length_cons, List.length_nil]; omega)
      refine Goes.step ⟨k, ?_⟩
      rw [r97_5b, decide_eq_true (show (pre.length : Int) < (s.length : Int) by omega), cond_true, if_neg h92]
      simp only [hid, hw]
      rw [show ((c.toNat : Int) == 42) = false from e42, show ((c.toNat : Int) == 63) = false from e63, show ((c.toNat : Int) == 92) = false from e92]
      rw [room16 (by omega)]; simp only [cond_false, cond_true]
      refine hk.trans ?_
      simp
theorem g97a (s : List UInt8) (hs : s.length ≤ 200) : ∀ (n : Nat) (rest pre : List UInt8) (i : Int), rest.length ≤ n → s = pre ++ rest → i = (pre.length : Int) →
    Goes (Γ mx) (runS []) 97 5 ⟨[(0, .s s), (4, .snil), (5, .i .i64 i)], []⟩ (bif (pcs rest).2 then (.tuple [bif rest.isEmpty then .snil else .sl 142 .any ((pcs rest).1.map pD), .b true], []) else (.tuple [.snil, .b false], []))
  | n, [], pre, i, hn, he, hi => by
    subst hi
    refine Goes.step ⟨0, ?_⟩
    rw [r97_5a, decide_eq_false (show ¬ (pre.length : Int) < (s.length : Int) by rw [he]; simp)]
    simp [pcs]
  | 0, _ :: _, pre, i, hn, he, hi => by simp at hn
  | n + 1, c :: r, pre, i, hn, he, hi => by
    subst hi
    have hlen : s.length = pre.length + (r.length + 1) := by rw [he]; simp
    have hid : ∀ {R : Type} (K : UInt8 → Option R), idx s (pre.length : Int) K = K c := fun K => by rw [he]; exact idx_mid pre r c K
    have hw : IntKind.wrap .i64 ((pre.length : Int) + 1) = (pre.length : Int) + 1 := wrapI (by omega) (by omega)
    have hw2 : IntKind.wrap .i64 ((pre.length : Int) + 1 + 1) = (pre.length : Int) + 1 + 1 := wrapI (by omega) (by omega)
    have hwl : IntKind.wrap .i64 ((s.length : Int) - 1) = (s.length : Int) - 1 := wrapI (by omega) (by omega)
    simp only [List.length_cons] at hn
    rw [pcs_cons]
    by_cases h42 : c = 42
    · subst h42
      obtain ⟨k, hk⟩ := g97b s hs n r (pre ++ [42]) [pD (2, 0)] ((pre.length : Int) + 1) (by omega) (by rw [he]; simp) (by simp) (by simp only [List.length_cons, List.length_nil]; omega)
      refine Goes.step ⟨k, ?_⟩
      rw [r97_5a, decide_eq_true (show (pre.length : Int) < (s.length : Int) by omega), cond_true]
      simp only [hid, hw, if_pos]
      show (bif true then _ else _) = _
      rw [cond_true]
      refine hk.trans ?_
      simp
    by_cases h63 : c = 63
    · subst h63
      obtain ⟨k, hk⟩ := g97b s hs n r (pre ++ [63]) [pD (1, 0)] ((pre.length : Int) + 1) (by omega) (by rw [he]; simp) (by simp) (by simp only [List.length_cons, List.length_nil]; omega)
      refine Goes.step ⟨k, ?_⟩
      rw [r97_5a, decide_eq_true (show (pre.length : Int) < (s.length : Int) by omega), cond_true]
      simp only [hid, hw, if_pos, if_neg h42]
      show (bif false then _ else (bif true then _ else _)) = _
      rw [cond_false, cond_true]
      refine hk.trans ?_
      simp
    have e42 := u8_ne (k := 42) (by omega) h42
    have e63 := u8_ne (k := 63) (by omega) h63
    rw [if_neg h42, if_neg h63]
    by_cases h92 : c = 92
    · subst h92
      rw [if_pos rfl]
      match r, he, hlen, hn with
      | [], he, hlen, hn =>
        refine Goes.step ⟨0, ?_⟩
        rw [r97_5a, decide_eq_true (show (pre.length : Int) < (s.length : Int) by omega), cond_true]
        simp only [hid, hw, hwl]
        have e1 : (((pre.length : Int) + 1) == (s.length : Int)) = true := by rw [beq_iff_eq]; simp only [List.length_nil] at hlen; omega
        have e2 : ((pre.length : Int) == (s.length : Int) - 1) = true := by rw [beq_iff_eq]; simp only [List.length_nil] at hlen; omega
        first | rw [e1] | rw [e2]
        rfl
      | d :: r', he, hlen, hn =>
        simp only [List.length_cons] at hlen hn
        have hid1 : ∀ {R : Type} (K : UInt8 → Option R), idx s ((pre.length : Int) + 1) K = K d := fun K => by rw [he]; exact idx_mid1 pre r' 92 d K
        obtain ⟨k, hk⟩ := g97b s hs n r' (pre ++ [92, d]) [pD (0, d)] ((pre.length : Int) + 1 + 1) (by omega) (by rw [he]; simp) (by simp; omega) (by simp only [List.length_cons, List.length_nil]; omega)
        refine Goes.step ⟨k, ?_⟩
        rw [r97_5a, decide_eq_true (show (pre.length : Int) < (s.length : Int) by omega), cond_true]
        simp only [hid, hw, hw2, hwl, hid1]
        have e1 : (((pre.length : Int) + 1) == (s.length : Int)) = false := by apply Bool.eq_false_iff.2; intro h; have := eq_of_beq h; omega
        have e2 : ((pre.length : Int) == (s.length : Int) - 1) = false := by apply Bool.eq_false_iff.2; intro h; have := eq_of_beq h; omega
        first | rw [e1] | rw [e2]
        show (bif false then _ else (bif false then _ else (bif true then (bif false then _ else _) else _))) = _
        simp only [cond_false, cond_true]
        refine hk.trans ?_
        simp
    · have e92 := u8_ne (k := 92) (by omega) h92
      obtain ⟨k, hk⟩ := g97b s hs n r (pre ++ [c]) [pD (0, c)] ((pre.length : Int) + 1) (by omega) (by rw [he]; simp) (by simp) (by simp only [List.length_cons, List.length_nil]; omega)
      refine Goes.step ⟨k, ?_⟩
      rw [r97_5a, decide_eq_true (show (pre.length : Int) < (s.length : Int) by omega), cond_true, if_neg h92]
      simp only [hid, hw]
      rw [show ((c.toNat : Int) == 42) = false from e42, show ((c.toNat : Int) == 63) = false from e63, show ((c.toNat : Int) == 92) = false from e92]
      simp only [cond_false, cond_true]
      refine hk.trans ?_
      simp
theorem g72b (s : List UInt8) (hs : s.length ≤ 200) : ∀ (n : Nat) (rest pre : List UInt8) (l : List D) (i : Int), rest.length ≤ n → s = pre ++ rest → i = (pre.length : Int) → l.length + rest.length ≤ 200 →
    Goes (Γ mx) (runS []) 72 5 ⟨[(0, .s s), (4, .ref 145 0), (5, .i .i64 i)], [some (.arr 145 l false)]⟩ (.tuple [.sl 145 .any (l ++ (pcs rest).1.map pD), .b (pcs rest).2], [])
  | n, [], pre, l, i, hn, he, hi, hl => by
    subst hi
    refine Goes.step ⟨0, ?_⟩
    rw [r72_5b, decide_eq_false (show ¬ (pre.length : Int) < (s.length : Int) by rw [he]; simp)]
    simp [pcs]
  | 0, _ :: _, pre, l, i, hn, he, hi, hl => by simp at hn
  | n + 1, c :: r, pre, l, i, hn, he, hi, hl => by
    subst hi
    have hlen : s.length = pre.length + (r.length + 1) := by rw [he]; simp
    have hid : ∀ {R : Type} (K : UInt8 → Option R), idx s (pre.length : Int) K = K c := fun K => by rw [he]; exact idx_mid pre r c K
    have hw : IntKind.wrap .i64 ((pre.length : Int) + 1) = (pre.length : Int) + 1 := wrapI (by omega) (by omega)
    have hw2 : IntKind.wrap .i64 ((pre.length : Int) + 1 + 1) = (pre.length : Int) + 1 + 1 := wrapI (by omega) (by omega)
    have hwl : IntKind.wrap .i64 ((s.length : Int) - 1) = (s.length : Int) - 1 := wrapI (by omega) (by omega)
    simp only [List.length_cons] at hn hl
    rw [pcs_cons]
    by_cases h42 : c = 42
    · subst h42
      obtain ⟨k, hk⟩ := g72b s hs n r (pre ++ [42]) (l ++ [pD (2, 0)]) ((pre.length : Int) + 1) (by omega) (by rw [he]; simp) (by simp) (by simp only [List.length_append, List.length_cons, List.length_nil]; omega)
      refine Goes.step ⟨k, ?_⟩
      rw [r72_5b, decide_eq_true (show (pre.length : Int) < (s.length : Int) by omega), cond_true]
      simp only [hid, hw, if_pos]
      show (bif true then _ else _) = _
      rw [room16 (by omega)]; rw [cond_true]
      refine hk.trans ?_
      simp
    by_cases h63 : c = 63
    · subst h63
      obtain ⟨k, hk⟩ := g72b s hs n r (pre ++ [63]) (l ++ [pD (1, 0)]) ((pre.length : Int) + 1) (by omega) (by rw [he]; simp) (by simp) (by simp only [List.length_append, List.length_cons, List.length_nil]; omega)
      refine Goes.step ⟨k, ?_⟩
      rw [r72_5b, decide_eq_true (show (pre.length : Int) < (s.length : Int) by omega), cond_true]
      simp only [hid, hw, if_pos, if_neg h42]
      show (bif false then _ else (bif true then _ else _)) = _
      rw [room16 (by omega)]; rw [cond_false, cond_true]
      refine hk.trans ?_
      simp
    have e42 := u8_ne (k := 42) (by omega) h42
    have e63 := u8_ne (k := 63) (by omega) h63
    rw [if_neg h42, if_neg h63]
    by_cases h92 : c = 92
    · subst h92
      rw [if_pos rfl]
      match r, he, hlen, hn, hl with
      | [], he, hlen, hn, hl =>
        refine Goes.step ⟨0, ?_⟩
        rw [r72_5b, decide_eq_true (show (pre.length : Int) < (s.length : Int) by omega), cond_true]
        simp only [hid, hw, hwl]
        have e1 : (((pre.length : Int) + 1) == (s.length : Int)) = true := by rw [beq_iff_eq]; simp only [List.length_nil] at hlen; omega
        have e2 : ((pre.length : Int) == (s.length : Int) - 1) = true := by rw [beq_iff_eq]; simp only [List.length_nil] at hlen; omega
        first | rw [e1] | rw [e2]
        simp
      | d :: r', he, hlen, hn, hl =>
        simp only [List.length_cons] at hlen hn hl
        have hid1 : ∀ {R : Type} (K : UInt8 → Option R), idx s ((pre.length : Int) + 1) K = K d := fun K => by rw [he]; exact idx_mid1 pre r' 92 d K
        obtain ⟨k, hk⟩ := g72b s hs n r' (pre ++ [92, d]) (l ++ [pD (0, d)]) ((pre.length : Int) + 1 + 1) (by omega) (by rw [he]; simp) (by simp; omega) (by simp only [List.length_append, List.length_cons, List.length_nil]; omega)
        refine Goes.step ⟨k, ?_⟩
        rw [r72_5b, decide_eq_true (show (pre.length : Int) < (s.length : Int) by omega), cond_true]
        simp only [hid, hw, hw2, hwl, hid1]
        have e1 : (((pre.length : Int) + 1) == (s.length : Int)) = false := by apply Bool.eq_false_iff.2; intro h; have := eq_of_beq h; omega
        have e2 : ((pre.length : Int) == (s.length : Int) - 1) = false := by apply Bool.eq_false_iff.2; intro h; have := eq_of_beq h; omega
        first | rw [e1] | rw [e2]
        show (bif false then _ else (bif false then _ else (bif true then (bif false then _ else _) else _))) = _
        rw [room16 (by omega)]; simp only [cond_false, cond_true]
        refine hk.trans ?_
        simp
    · have e92 := u8_ne (k := 92) (by omega) h92
      obtain ⟨k, hk⟩ := g72b s hs n r (pre ++ [c]) (l ++ [pD (0, c)]) ((pre.length : Int) + 1) (by omega) (by rw [he]; simp) (by simp) (by simp only [List.length_append, List.length_cons, List.length_nil]; omega)
      refine Goes.step ⟨k, ?_⟩
      rw [r72_5b, decide_eq_true (show (pre.length : Int) < (s.length : Int) by omega), cond_true, if_neg h92]
      simp only [hid, hw]
      rw [show ((c.toNat : Int) == 42) = false from e42, show ((c.toNat : Int) == 63) = false from e63, show ((c.toNat : Int) == 92) = false from e92]
      rw [room16 (by omega)]; simp only [cond_false, cond_true]
      refine hk.trans ?_
      simp
theorem g72a (s : List UInt8) (hs : s.length ≤ 200) : ∀ (n : Nat) (rest pre : List UInt8) (i : Int), rest.length ≤ n → s = pre ++ rest → i = (pre.length : Int) →
    Goes (Γ mx) (runS []) 72 5 ⟨[(0, .s s), (4, .sl 145 .ex []), (5, .i .i64 i)], []⟩ (.tuple [.sl 145 (bif (pcs rest).1.isEmpty then .ex else .any) ((pcs rest).1.map pD), .b (pcs rest).2], [])
  | n, [], pre, i, hn, he, hi => by
    subst hi
    refine Goes.step ⟨0, ?_⟩
    rw [r72_5a, decide_eq_false (show ¬ (pre.length : Int) < (s.length : Int) by rw [he]; simp)]
    simp [pcs]
  | 0, _ :: _, pre, i, hn, he, hi => by simp at hn
  | n + 1, c :: r, pre, i, hn, he, hi => by
    subst hi
    have hlen : s.length = pre.length + (r.length + 1) := by rw [he]; simp
    have hid : ∀ {R : Type} (K : UInt8 → Option R), idx s (pre.length : Int) K = K c := fun K => by rw [he]; exact idx_mid pre r c K
    have hw : IntKind.wrap .i64 ((pre.length : Int) + 1) = (pre.length : Int) + 1 := wrapI (by omega) (by omega)
    have hw2 : IntKind.wrap .i64 ((pre.length : Int) + 1 + 1) = (pre.length : Int) + 1 + 1 := wrapI (by omega) (by omega)
    have hwl : IntKind.wrap .i64 ((s.length : Int) - 1) = (s.length : Int) - 1 := wrapI (by omega) (by omega)
    simp only [List.length_cons] at hn
    rw [pcs_cons]
    by_cases h42 : c = 42
    · subst h42
      obtain ⟨k, hk⟩ := g72b s hs n r (pre ++ [42]) [pD (2, 0)] ((pre.length : Int) + 1) (by omega) (by rw [he]; simp) (by simp) (by simp only [List.length_cons, List.length_nil]; omega)
      refine Goes.step ⟨k, ?_⟩
      rw [r72_5a, decide_eq_true (show (pre.length : Int) < (s.length : Int) by omega), cond_true]
      simp only [hid, hw, if_pos]
      show (bif true then _ else _) = _
      rw [room16 (by simp only [List.length_nil]; omega)]; rw [cond_true]
      refine hk.trans ?_
      simp
    by_cases h63 : c = 63
    · subst h63
      obtain ⟨k, hk⟩ := g72b s hs n r (pre ++ [63]) [pD (1, 0)] ((pre.length : Int) + 1) (by omega) (by rw [he]; simp) (by simp) (by simp only [List.length_cons, List.length_nil]; omega)
      refine Goes.step ⟨k, ?_⟩
      rw [r72_5a, decide_eq_true (show (pre.length : Int) < (s.length : Int) by omega), cond_true]
      simp only [hid, hw, if_pos, if_neg h42]
      show (bif false then _ else (bif true then _ else _)) = _
      rw [room16 (by simp only [List.length_nil]; omega)]; rw [cond_false, cond_true]
      refine hk.trans ?_
      simp
    have e42 := u8_ne (k := 42) (by omega) h42
    have e63 := u8_ne (k := 63) (by omega) h63
    rw [if_neg h42, if_neg h63]
    by_cases h92 : c = 92
    · subst h92
      rw [if_pos rfl]
      match r, he, hlen, hn with
      | [], he, hlen, hn =>
        refine Goes.step ⟨0, ?_⟩
        rw [r72_5a, decide_eq_true (show (pre.length : Int) < (s.length : Int) by omega), cond_true]
        simp only [hid, hw, hwl]
        have e1 : (((pre.length : Int) + 1) == (s.length : Int)) = true := by rw [beq_iff_eq]; simp only [List.length_nil] at hlen; omega
        have e2 : ((pre.length : Int) == (s.length : Int) - 1) = true := by rw [beq_iff_eq]; simp only [List.length_nil] at hlen; omega
        first | rw [e1] | rw [e2]
        rfl
      | d :: r', he, hlen, hn =>
        simp only [List.length_cons] at hlen hn
        have hid1 : ∀ {R : Type} (K : UInt8 → Option R), idx s ((pre.length : Int) + 1) K = K d := fun K => by rw [he]; exact idx_mid1 pre r' 92 d K
        obtain ⟨k, hk⟩ := g72b s hs n r' (pre ++ [92, d]) [pD (0, d)] ((pre.length : Int) + 1 + 1) (by omega) (by rw [he]; simp) (by simp; omega) (by simp only [List.length_cons, List.length_nil]; omega)
        refine Goes.step ⟨k, ?_⟩
        rw [r72_5a, decide_eq_true (show (pre.length : Int) < (s.length : Int) by omega), cond_true]
        simp only [hid, hw, hw2, hwl, hid1]
        have e1 : (((pre.length : Int) + 1) == (s.length : Int)) = false := by apply Bool.eq_false_iff.2; intro h; have := eq_of_beq h; omega
        have e2 : ((pre.length : Int) == (s.length : Int) - 1) = false := by apply Bool.eq_false_iff.2; intro h; have := eq_of_beq h; omega
        first | rw [e1] | rw [e2]
        show (bif false then _ else (bif false then _ else (bif true then (bif false then _ else _) else _))) = _
        rw [room16 (by simp only [List.length_nil]; omega)]; simp only [cond_false, cond_true]
        refine hk.trans ?_
        simp
    · have e92 := u8_ne (k := 92) (by omega) h92
      obtain ⟨k, hk⟩ := g72b s hs n r (pre ++ [c]) [pD (0, c)] ((pre.length : Int) + 1) (by omega) (by rw [he]; simp) (by simp) (by simp only [List.length_cons, List.length_nil]; omega)
      refine Goes.step ⟨k, ?_⟩
      rw [r72_5a, decide_eq_true (show (pre.length : Int) < (s.length : Int) by omega), cond_true, if_neg h92]
      simp only [hid, hw]
      rw [show ((c.toNat : Int) == 42) = false from e42, show ((c.toNat : Int) == 63) = false from e63, show ((c.toNat : Int) == 92) = false from e92]
      rw [room16 (by simp only [List.length_nil]; omega)]; simp only [cond_false, cond_true]
      refine hk.trans ?_
      simp
theorem c97 (p : List UInt8) (_ : true = true) : RetX (Γ mx) 97 [.s p] [] (.tuple [.sl 142 .any (pcV p), .b (pcB p)]) [] := by
  have hto : ∀ (x : AV) (l : List D) (b : Bool), (∀ w S σ v, RepA (Γ mx).P w S σ [] x v → RepA (Γ mx).P w S σ [] (.sl 142 .any l) v) → ∀ w S σ v, RepA (Γ mx).P w S σ [] (.tuple [x, .b b]) v → RepA (Γ mx).P w S σ [] (.tuple [.sl 142 .any l, .b b]) v := by
    intro x l b h w S σ v hv
    rw [RepA] at hv ⊢
    obtain ⟨vs, rfl, hv⟩ := hv
    refine ⟨vs, rfl, ?_⟩
    simp only [RepAs] at hv ⊢
    obtain ⟨v1, r1, rfl, h1, h2⟩ := hv
    exact ⟨v1, r1, rfl, h _ _ _ _ h1, h2⟩
  have hnil : ∀ w S σ v, RepA (Γ mx).P w S σ [] .snil v → RepA (Γ mx).P w S σ [] (.sl 142 .any []) v := by
    intro w S σ v hv
    simp only [RepA] at hv ⊢
    subst hv
    exact ⟨none, 0, rfl, ⟨Nat.le_refl _, fun _ => rfl⟩, .inl trivial⟩
  by_cases hl : p.length ≤ 200
  · obtain ⟨k, hk⟩ := g97a (mx := mx) p hl p.length p [] 0 (Nat.le_refl _) rfl rfl
    have h := ret_goes (Γ := Γ mx) (f := 97) (args := [.s p]) (obs := []) hP hZ none_ok (by kernel_rfl) ⟨k, by rw [r97, decide_eq_false (show ¬ (p.length : Int) > 200 by omega)]; exact hk⟩
    have e1 : pcB p = (pcs p).2 := by unfold pcB; rw [decide_eq_true hl, Bool.true_and]
    have e2 : pcL p = (pcs p).1 := by unfold pcL; rw [decide_eq_true hl]; rfl
    unfold pcV
    rw [e1, e2]
    cases hb : (pcs p).2 with
    | false =>
      rw [hb] at h
      exact h.to (hto _ _ _ hnil)
    | true =>
      rw [hb] at h
      cases p with
      | nil => exact h.to (hto _ _ _ hnil)
      | cons c r => exact h
  · have h := ret_goes (Γ := Γ mx) (f := 97) (args := [.s p]) (obs := []) hP hZ none_ok (by kernel_rfl) ⟨0, by rw [r97, decide_eq_true (show (p.length : Int) > 200 by omega)]; rfl⟩
    have e1 : pcB p = false := by unfold pcB; rw [decide_eq_false hl]; rfl
    unfold pcV
    rw [e1]
    exact h.to (hto _ _ _ hnil)
theorem c72 (p : List UInt8) (_ : true = true) : RetX (Γ mx) 72 [.s p] [] (.tuple [.sl 145 .any (pcR p), .b (pcB p)]) [] := by
  have hto : ∀ (c : Cp) (l : List D) (b : Bool), ∀ w S σ v, RepA (Γ mx).P w S σ [] (.tuple [.sl 145 c l, .b b]) v → RepA (Γ mx).P w S σ [] (.tuple [.sl 145 .any l, .b b]) v := by
    intro c l b w S σ v hv
    rw [RepA] at hv ⊢
    obtain ⟨vs, rfl, hv⟩ := hv
    refine ⟨vs, rfl, ?_⟩
    simp only [RepAs, RepA] at hv ⊢
    obtain ⟨v1, r1, rfl, ⟨a, cap, rfl, h1, h2⟩, h3⟩ := hv
    exact ⟨_, r1, rfl, ⟨a, cap, rfl, h1.any, h2⟩, h3⟩
  by_cases hl : p.length ≤ 200
  · obtain ⟨k, hk⟩ := g72a (mx := mx) p hl p.length p [] 0 (Nat.le_refl _) rfl rfl
    have h := ret_goes (Γ := Γ mx) (f := 72) (args := [.s p]) (obs := []) hP hZ none_ok (by kernel_rfl) ⟨k, by rw [r72, decide_eq_false (show ¬ (p.length : Int) > 200 by omega)]; exact hk⟩
    have e1 : pcB p = (pcs p).2 := by unfold pcB; rw [decide_eq_true hl, Bool.true_and]
    have e2 : pcL p = (pcs p).1 := by unfold pcL; rw [decide_eq_true hl]; rfl
    unfold pcR
    rw [e1, e2]
    exact h.to (hto _ _ _)
  · have h := ret_goes (Γ := Γ mx) (f := 72) (args := [.s p]) (obs := []) hP hZ none_ok (by kernel_rfl) ⟨0, by rw [r72, decide_eq_true (show (p.length : Int) > 200 by omega)]; rfl⟩
    have e1 : pcB p = false := by unfold pcB; rw [decide_eq_false hl]; rfl
    have e2 : pcL p = [] := by unfold pcL; rw [decide_eq_false hl]; rfl
    unfold pcR
    rw [e1, e2]
    exact h.to (hto _ _ _)
end Go.Proofs.YtjbemleloffafaaDoor.V
