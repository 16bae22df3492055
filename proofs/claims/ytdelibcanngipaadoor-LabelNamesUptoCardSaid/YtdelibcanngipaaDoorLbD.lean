/- label.Next comes to the least text above; ref.Begins says whether a text begins with another one. -/
import Derived.Test.YtdelibcanngipaaDoorLbC
namespace Go.Proofs.YtdelibcanngipaaDoor.V
open Go
set_option maxRecDepth 100000
set_option linter.unusedVariables false
set_option linter.unusedSimpArgs false

/-- of a text from its end on -/
def nx : List UInt8 → Option (List UInt8)
  | [] => none
  | c :: r => if c = 255 then nx r else some (r.reverse ++ [c + 1])
def nextV (l : List UInt8) : Option (List UInt8) := nx l.reverse
def nextS (l : List UInt8) : List UInt8 := (nextV l).getD []
def nextB (l : List UInt8) : Bool := (nextV l).isSome
theorem nextV_snoc (m : List UInt8) (c : UInt8) : nextV (m ++ [c]) = if c = 255 then nextV m else some (m ++ [c + 1]) := by
  simp [nextV, nx]

theorem bytesD_snoc (m : List UInt8) (c : UInt8) : bytesD (m ++ [c]) = bytesD m ++ [.int .u8 c.toNat] := by simp [bytesD]
theorem bytesD_len (m : List UInt8) : (bytesD m).length = m.length := by simp [bytesD]
theorem unBytes_bytesD : ∀ l : List UInt8, unBytes (bytesD l) = some l
  | [] => rfl
  | c :: r => by
    have ih := unBytes_bytesD r
    unfold bytesD at ih ⊢
    simp only [List.map_cons, unBytes, ih, Option.map_some, Int.toNat_natCast, UInt8.ofNat_toNat]
theorem kBytes_bytesD {R : Type} (l : List UInt8) (K : List UInt8 → Option R) : kBytes (bytesD l) K = K l := by unfold kBytes; rw [unBytes_bytesD]
theorem byte_le (c : UInt8) : c.toNat ≤ 255 := by have := c.toNat_lt; omega
theorem wrap8 (c : UInt8) (h : c ≠ 255) : IntKind.u8.wrap ((c.toNat : Int) + 1) = ((c + 1).toNat : Int) := by
  have h1 : c.toNat ≠ 255 := fun e => h (UInt8.toNat_inj.1 (by rw [e]; rfl))
  have h2 := byte_le c
  have h3 : (c + 1).toNat = c.toNat + 1 := by rw [UInt8.toNat_add]; simp; omega
  rw [h3]
  simp only [IntKind.wrap, IntKind.signed, IntKind.bits, Bool.false_and, Bool.false_eq_true, if_false]
  omega

theorem snoc_cases (l : List UInt8) : l = [] ∨ ∃ m c, l = m ++ [c] := by
  rcases List.eq_nil_or_concat l with h | ⟨m, c, h⟩
  · exact .inl h
  · exact .inr ⟨m, c, by simpa using h⟩
theorem next_goes (call : Handle) : ∀ (n : Nat) (l : List UInt8), l.length = n → l.length ≤ 1125899906842624 →
    Goes Γ call 18 2 ⟨[(4, .ref 5 0)], [some (.arr 5 (bytesD l) false)]⟩ (.tuple [.s (nextS l), .b (nextB l)], [])
  | n, l, hn, hl => by
    refine Goes.step ?_
    rcases snoc_cases l with rfl | ⟨m, c, rfl⟩
    · refine ⟨0, ?_⟩
      rw [r18_2a]
      rfl
    · simp only [List.length_append, List.length_cons, List.length_nil] at hl hn
      have hw : IntKind.wrap .i64 ((((bytesD (m ++ [c])).length : Int)) - 1) = (m.length : Int) := by
        rw [bytesD_len]
        simp only [List.length_append, List.length_cons, List.length_nil]
        rw [show (((m.length + (0 + 1) : Nat) : Int) - 1) = (m.length : Int) by omega]
        exact wrap_id (by omega) (by omega)
      have hlen : ((bytesD (m ++ [c])).length : Int) = (m.length : Int) + 1 := by rw [bytesD_len]; simp
      have hget : ∀ {R : Type} (K : D → Option R), lGet (bytesD (m ++ [c])) m.length K = K (.int .u8 c.toNat) := fun K => by
        unfold lGet
        rw [bytesD_snoc, ← bytesD_len m, List.getElem?_append_right (Nat.le_refl _)]
        simp
      have hset : ∀ x : Int, List.set (bytesD (m ++ [c])) m.length (.int .u8 x) = bytesD m ++ [.int .u8 x] := fun x => by
        rw [bytesD_snoc, ← bytesD_len m, List.set_append_right _ _ (Nat.le_refl _)]
        simp
      have htake : List.take m.length (bytesD (m ++ [c])) = bytesD m := by
        rw [bytesD_snoc, ← bytesD_len m]; simp
      have d1 : decide (((m.length : Int) + 1) > 0) = true := by simp <;> omega
      have d2 : (decide ((0 : Int) ≤ (m.length : Int)) && decide ((m.length : Int) < (m.length : Int) + 1)) = true := by simp <;> omega
      have d3 : (decide ((0 : Int) ≤ (m.length : Int)) && decide ((m.length : Int) ≤ (m.length : Int) + 1)) = true := by simp <;> omega
      have d4 : (((m.length : Int) + 1) == 0) = false := by simp <;> omega
      by_cases hc : c = 255
      · obtain ⟨k, hk⟩ := next_goes call m.length m rfl (by omega)
        refine ⟨k, ?_⟩
        rw [r18_2a, hw, hlen]
        simp only [d1, d2, d3, cond_true, Int.toNat_natCast, hget, dInt, kEq, htake]
        have e : ((c.toNat : Int) == 255) = true := by rw [hc]; rfl
        simp only [e, cond_true]
        rw [hk]
        unfold nextS nextB
        rw [nextV_snoc, if_pos hc]
      · refine ⟨0, ?_⟩
        rw [r18_2a, hw, hlen]
        have e : ((c.toNat : Int) == 255) = false := by
          have : c.toNat ≠ 255 := fun e => hc (UInt8.toNat_inj.1 (by rw [e]; rfl))
          simp; omega
        simp only [d1, d2, d3, d4, cond_true, cond_false, Int.toNat_natCast, hget, dInt, kEq, e, wrap8 c hc, hset]
        rw [← bytesD_snoc, kBytes_bytesD]
        unfold nextS nextB
        rw [nextV_snoc, if_neg hc]
        rfl
  termination_by n => n
  decreasing_by simp only [List.length_append, List.length_cons, List.length_nil] at *; omega

/-- a text begins with another one -/
def begins (s p : List UInt8) : Bool := decide (p.length ≤ s.length) && (List.take p.length s == p)
theorem next_ret {call : Handle} (hc : CallsOK Γ call) (l : List UInt8) (hl : l.length ≤ 1125899906842624) : RetX Γ 18 [.s l] [] (.tuple [.s (nextS l), .b (nextB l)]) [] := by
  refine ret_goes hP hZ hc (by kernel_rfl) ?_
  obtain ⟨n, hn⟩ := next_goes call _ l rfl hl
  exact ⟨n, by rw [r18]; exact hn⟩
theorem begins_ret {call : Handle} (hc : CallsOK Γ call) (s p : List UInt8) : RetX Γ 22 [.s s, .s p] [] (.b (begins s p)) [] := by
  refine ret_goes hP hZ hc (by kernel_rfl) ⟨0, ?_⟩
  rw [r22]
  by_cases h : p.length ≤ s.length
  · have d1 : decide ((s.length : Int) ≥ (p.length : Int)) = true := by simp <;> omega
    have d2 : (decide ((0 : Int) ≤ (p.length : Int)) && decide ((p.length : Int) ≤ (s.length : Int))) = true := by simp <;> omega
    have d0 : decide ((0 : Int) ≤ (p.length : Int)) = true := by simp <;> omega
    rw [d1, d0]
    simp only [Bool.and_self, cond_true, Int.toNat_natCast, Nat.sub_zero, List.drop_zero, begins, h, decide_true, Bool.true_and]
  · have d1 : decide ((s.length : Int) ≥ (p.length : Int)) = false := by simp <;> omega
    simp only [d1, cond_false, begins, h, decide_false, Bool.false_and]
end Go.Proofs.YtdelibcanngipaaDoor.V
