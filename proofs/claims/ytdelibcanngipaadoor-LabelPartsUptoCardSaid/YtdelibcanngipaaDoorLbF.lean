/- What begins with a text is below its Next, and what is below that and not below the text begins with it: over lists of bytes, no program in sight. -/
import Derived.Test.YtdelibcanngipaaDoorLbE
namespace Go.Proofs.YtdelibcanngipaaDoor.V
open Go
set_option linter.unusedVariables false
set_option linter.unusedSimpArgs false

theorem less_nil (a : List UInt8) : lessB a [] = false := by cases a <;> rfl
theorem less_nil_cons (b : UInt8) (y : List UInt8) : lessB [] (b :: y) = true := rfl
theorem less_cons (a b : UInt8) (x y : List UInt8) : lessB (a :: x) (b :: y) = (decide (a < b) || (a == b && lessB x y)) := rfl
theorem begins_nil (t : List UInt8) : begins t [] = true := by simp [begins]
theorem begins_nil_cons (b : UInt8) (s : List UInt8) : begins [] (b :: s) = false := by simp [begins]
theorem begins_cons (a b : UInt8) (t s : List UInt8) : begins (a :: t) (b :: s) = (a == b && begins t s) := by
  simp only [begins, List.length_cons, Nat.add_le_add_iff_right, List.take_succ_cons, List.cons_beq_cons]
  cases decide (s.length ≤ t.length) <;> cases (a == b) <;> simp
theorem lt_iff (a b : UInt8) : a < b ↔ a.toNat < b.toNat := UInt8.lt_iff_toNat_lt
theorem eq_iff (a b : UInt8) : a = b ↔ a.toNat = b.toNat := UInt8.toNat_inj.symm

def all255 (f : List UInt8) : Prop := ∀ c ∈ f, c = 255
theorem begins_255 : ∀ (f t : List UInt8), all255 f → begins t f = !lessB t f
  | [], t, _ => by rw [begins_nil, less_nil]; rfl
  | c :: f, [], _ => by rw [begins_nil_cons, less_nil_cons]; rfl
  | c :: f, d :: t, h => by
    have hc : c = 255 := h c (by simp)
    have ih := begins_255 f t fun x hx => h x (by simp [hx])
    rw [begins_cons, less_cons, ih]
    subst hc
    by_cases hd : d = 255
    · subst hd; simp
    · have : d < 255 := by
        rw [lt_iff]
        have h1 := byte_le d
        have h2 : d.toNat ≠ 255 := fun e => hd ((eq_iff _ _).2 e)
        show d.toNat < 255
        omega
      simp [hd, this]
/-- the least text above all that begin with another one -/
inductive Nx : List UInt8 → List UInt8 → Prop where
  | one {c : UInt8} {f : List UInt8} : c ≠ 255 → all255 f → Nx (c :: f) [c + 1]
  | more {a : UInt8} {s n : List UInt8} : Nx s n → Nx (a :: s) (a :: n)
theorem Nx.ff {s n : List UInt8} (h : Nx s n) : Nx (s ++ [255]) n := by
  induction h with
  | one hc hf => exact .one hc fun x hx => by rcases List.mem_append.1 hx with h | h; exact hf x h; simpa using h
  | more _ ih => exact .more ih
theorem Nx.end (m : List UInt8) {c : UInt8} (hc : c ≠ 255) : Nx (m ++ [c]) (m ++ [c + 1]) := by
  induction m with
  | nil => exact .one hc fun x hx => by cases hx
  | cons a m ih => exact .more ih
theorem nextV_cases : ∀ (n : Nat) (s : List UInt8), s.length = n → (nextV s = none ∧ all255 s) ∨ ∃ m, nextV s = some m ∧ Nx s m
  | n, s, hn => by
    rcases snoc_cases s with rfl | ⟨m, c, rfl⟩
    · exact .inl ⟨rfl, fun x hx => by cases hx⟩
    · simp only [List.length_append, List.length_cons, List.length_nil] at hn
      rw [nextV_snoc]
      by_cases hc : c = 255
      · subst hc
        rw [if_pos rfl]
        rcases nextV_cases m.length m rfl with ⟨h1, h2⟩ | ⟨k, h1, h2⟩
        · exact .inl ⟨h1, fun x hx => by rcases List.mem_append.1 hx with h | h; exact h2 x h; simpa using h⟩
        · exact .inr ⟨k, h1, h2.ff⟩
      · rw [if_neg hc]
        exact .inr ⟨_, rfl, Nx.end m hc⟩
  termination_by n => n
  decreasing_by simp only [List.length_append, List.length_cons, List.length_nil] at *; omega
theorem Nx.above {s n : List UInt8} (h : Nx s n) : (lessB n s || n == s) = false := by
  induction h with
  | @one c f hc hf =>
    have h1 : c.toNat ≠ 255 := fun e => hc ((eq_iff _ _).2 e)
    have h2 := byte_le c
    have h3 : (c + 1).toNat = c.toNat + 1 := by rw [UInt8.toNat_add]; simp; omega
    have h4 : ¬ (c + 1 < c) := by rw [lt_iff, h3]; omega
    have h5 : ¬ (c + 1 = c) := by rw [eq_iff, h3]; omega
    rw [less_cons]
    simp [h4, h5]
  | @more a s n _ ih =>
    simp only [Bool.or_eq_false_iff] at ih
    rw [less_cons]
    have : ¬ (a < a) := by rw [lt_iff]; omega
    simp [this, ih.1]
    have := ih.2
    simpa using this
theorem Nx.just {s n : List UInt8} (h : Nx s n) : ∀ t, begins t s = (!lessB t s && lessB t n) := by
  induction h with
  | @one c f hc hf =>
    intro t
    have h1 : c.toNat ≠ 255 := fun e => hc ((eq_iff _ _).2 e)
    have h2 := byte_le c
    have h3 : (c + 1).toNat = c.toNat + 1 := by rw [UInt8.toNat_add]; simp; omega
    cases t with
    | nil => rw [begins_nil_cons, less_nil_cons]; rfl
    | cons d t =>
      rw [begins_cons, less_cons, less_cons, begins_255 f t hf, less_nil]
      rcases Nat.lt_trichotomy d.toNat c.toNat with hd | hd | hd
      · have a1 : d < c := (lt_iff _ _).2 hd
        have a2 : ¬ d = c := fun e => by rw [e] at hd; omega
        simp [a1, a2]
      · have a1 : d = c := (eq_iff _ _).2 hd
        subst a1
        have a2 : d < d + 1 := by rw [lt_iff, h3]; omega
        have a3 : ¬ d < d := by rw [lt_iff]; omega
        simp [a2, a3]
      · have a1 : ¬ d < c + 1 := by rw [lt_iff, h3]; omega
        have a2 : ¬ d = c := fun e => by rw [e] at hd; omega
        simp [a1, a2]
  | @more a s n _ ih =>
    intro t
    cases t with
    | nil => rw [begins_nil_cons, less_nil_cons]; rfl
    | cons d t =>
      rw [begins_cons, less_cons, less_cons, ih t]
      rcases Nat.lt_trichotomy d.toNat a.toNat with hd | hd | hd
      · have a1 : d < a := (lt_iff _ _).2 hd
        have a2 : ¬ d = a := fun e => by rw [e] at hd; omega
        simp [a1, a2]
      · have a1 : d = a := (eq_iff _ _).2 hd
        subst a1
        have a3 : ¬ d < d := by rw [lt_iff]; omega
        simp [a3]
      · have a1 : ¬ d < a := by rw [lt_iff]; omega
        have a2 : (d == a) = false := by
          have : ¬ d = a := fun e => by rw [e] at hd; omega
          simpa using this
        simp [a1, a2]
/-- the law, at any two texts -/
theorem law_next (lab : Lab) (s t : List UInt8) (hs : s.length ≤ 1125899906842624) : evF Γ Hn lab 7 [.s s, .s t] [] = some (.b true, []) := by
  rw [r7]
  have h0 : shortB s = true := by simpa [shortB] using hs
  simp only [h0, cond_true]
  rcases nextV_cases s.length s rfl with ⟨h1, h2⟩ | ⟨n, h1, h2⟩
  · have e1 : nextB s = false := by unfold nextB; rw [h1]; rfl
    have e2 : nextS s = [] := by unfold nextS; rw [h1]; rfl
    have e3 : (([] : List UInt8) == []) = true := rfl
    simp only [e1, e2, Bool.not_false, cond_true, e3]
    rw [begins_255 s t h2]
    cases lessB t s <;> rfl
  · have e1 : nextB s = true := by unfold nextB; rw [h1]; rfl
    have e2 : nextS s = n := by unfold nextS; rw [h1]; rfl
    simp only [e1, e2, Bool.not_true, cond_false, h2.above, Bool.not_false, cond_true]
    rw [h2.just t]
    cases lessB t s <;> cases lessB t n <;> rfl
end Go.Proofs.YtdelibcanngipaaDoor.V
