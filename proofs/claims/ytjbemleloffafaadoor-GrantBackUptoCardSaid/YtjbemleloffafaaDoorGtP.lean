/- Grants as text: what the functions come to; splitting at blanks; a grant's text read again. No program in sight. -/
import Derived.Test.YtjbemleloffafaaDoorEsF
import Derived.Test.YtjbemleloffafaaDoorEtA
namespace Go.Proofs.YtjbemleloffafaaDoor.V
open Go
set_option maxRecDepth 100000
set_option linter.unusedVariables false
set_option linter.unusedSimpArgs false
def wordV (p : List UInt8) : List UInt8 := bif p == [] then [37] else escV p
def uwS (s : List UInt8) : List UInt8 := bif s == [37] then [] else unS s
def uwB (s : List UInt8) : Bool := s == [37] || (unE s == 0 && !(unS s == []))
def denyW : List UInt8 := [100, 101, 110, 121]
def allowW : List UInt8 := [97, 108, 108, 111, 119]
def firstW (b : Bool) : List UInt8 := bif b then denyW else allowW
/-! ### splitting -/
def consHd (c : UInt8) : List (List UInt8) → List (List UInt8)
  | [] => [[c]]
  | p :: r => (c :: p) :: r
def spl (k : UInt8) : List UInt8 → List (List UInt8)
  | [] => [[]]
  | c :: r => if c = k then [] :: spl k r else consHd c (spl k r)
theorem splitK_cons {k : UInt8} {c : UInt8} (hc : c ≠ k) (r : List UInt8) (n : Nat) : Lib.splitK [k] 0 n (c :: r) = consHd c (Lib.splitK [k] 0 n r) := by
  cases n with
  | zero => rfl
  | succ n =>
    have hp : List.isPrefixOf [k] (c :: r) = false := by simp [List.isPrefixOf, Ne.symm hc]
    have hge := Lib.index_ge r [k]
    simp only [Lib.splitK]
    rw [Lib.index, hp]
    simp only [Bool.false_eq_true, if_false]
    by_cases h : Lib.index r [k] = -1
    · rw [h]; rfl
    · have h2 : (Lib.index r [k] == -1) = false := by simpa using h
      have h3 : (Lib.index r [k] + 1 == -1) = false := by simp <;> omega
      rw [h2]
      simp only [Bool.false_eq_true, if_false]
      rw [h3]
      simp only [Bool.false_eq_true, if_false, Nat.add_zero]
      rw [show (Lib.index r [k] + 1).toNat = (Lib.index r [k]).toNat + 1 by omega, List.take_succ_cons, show (Lib.index r [k]).toNat + 1 + [(k : UInt8)].length = ((Lib.index r [k]).toNat + [(k : UInt8)].length) + 1 by omega, List.drop_succ_cons]
      rfl
theorem split_spl (k : UInt8) : ∀ s : List UInt8, Lib.split s [k] = spl k s
  | [] => by rfl
  | c :: r => by
    have ih := split_spl k r
    unfold Lib.split at ih ⊢
    rw [Lib.count_one] at ih ⊢
    by_cases hc : c = k
    · subst hc
      have hp : List.isPrefixOf [c] (c :: r) = true := by simp [List.isPrefixOf]
      rw [List.count_cons_self, Lib.splitK, Lib.index, if_pos hp]
      simp only [spl, if_true]
      rw [← ih]
      rfl
    · rw [List.count_cons_of_ne (by simpa using hc), splitK_cons hc, ih]
      simp only [spl, if_neg hc]
theorem spl_ne (k : UInt8) (s : List UInt8) : spl k s ≠ [] := by
  cases s with
  | nil => simp [spl]
  | cons c r =>
    rw [spl]
    split
    · simp
    · cases spl k r <;> simp [consHd]
theorem spl_app (k : UInt8) : ∀ (x r : List UInt8), (∀ c ∈ x, c ≠ k) → spl k (x ++ k :: r) = x :: spl k r
  | [], r, _ => by simp [spl]
  | c :: x, r, h => by
    rw [List.cons_append, spl, if_neg (h c (by simp)), spl_app k x r fun d hd => h d (by simp [hd])]; rfl
theorem spl_one (k : UInt8) : ∀ (x : List UInt8), (∀ c ∈ x, c ≠ k) → spl k x = [x]
  | [], _ => rfl
  | c :: x, h => by rw [spl, if_neg (h c (by simp)), spl_one k x fun d hd => h d (by simp [hd])]; rfl
theorem join_cons (x : List UInt8) {l : List (List UInt8)} (h : l ≠ []) (sep : List UInt8) : Lib.join (x :: l) sep = x ++ sep ++ Lib.join l sep := by
  cases l with
  | nil => exact absurd rfl h
  | cons y r => simp [Lib.join, List.intercalate]
theorem join_spl (k : UInt8) : ∀ s : List UInt8, Lib.join (spl k s) [k] = s
  | [] => by simp [spl, Lib.join_one]
  | c :: r => by
    rw [spl]
    have ih := join_spl k r
    split
    · rename_i h
      rw [join_cons [] (spl_ne k r), ih, h]; rfl
    · have hn := spl_ne k r
      cases hs : spl k r with
      | nil => exact absurd hs hn
      | cons p q =>
        rw [hs] at ih
        cases q with
        | nil => simp only [consHd, Lib.join_one] at ih ⊢; rw [ih]
        | cons y z => rw [consHd, join_cons (c :: p) (by simp)]; rw [join_cons p (by simp)] at ih; rw [List.cons_append, List.cons_append, ih]
theorem spl_len (k : UInt8) : ∀ (s : List UInt8), ∀ p ∈ spl k s, p.length ≤ s.length
  | [], p, h => by simp [spl] at h; subst h; simp
  | c :: r, p, h => by
    rw [spl] at h
    have ih := spl_len k r
    split at h
    · rcases List.mem_cons.1 h with rfl | h
      · simp
      · have := ih p h; simp; omega
    · cases hs : spl k r with
      | nil => exact absurd hs (spl_ne k r)
      | cons y z =>
        rw [hs] at h ih
        rw [consHd] at h
        rcases List.mem_cons.1 h with rfl | h
        · have := ih y (by simp); simp; omega
        · have := ih p (List.mem_cons_of_mem _ h); simp; omega
theorem spl_num (k : UInt8) : ∀ (s : List UInt8), (spl k s).length ≤ s.length + 1
  | [] => Nat.le_refl _
  | c :: r => by
    rw [spl]
    have ih := spl_num k r
    split
    · simp; omega
    · cases hs : spl k r with
      | nil => simp [consHd]
      | cons y z => rw [hs] at ih; rw [consHd]; simp at ih ⊢; omega
/-! ### a word -/
theorem okB32 {c : UInt8} (h : okB c = true) : c ≠ 32 := fun e => by subst e; revert h; decide
theorem word_ok (p : List UInt8) : ∀ c ∈ wordV p, c ≠ 32 := by
  unfold wordV
  cases h : (p == []) with
  | true => simp
  | false => exact fun c hc => okB32 (List.all_eq_true.1 (esc_all p) c hc)
theorem encB_ne (c : UInt8) : encB c ≠ [] := by unfold encB; split <;> simp
theorem esc_ne {p : List UInt8} (h : p ≠ []) : escV p ≠ [] := by
  cases p with
  | nil => exact absurd rfl h
  | cons c r => rw [escV]; intro e; exact encB_ne c (List.append_eq_nil_iff.1 e).1
theorem esc_ne37 (p : List UInt8) : escV p ≠ [37] := by
  cases p with
  | nil => simp [escV]
  | cons c r =>
    rw [escV, encB]
    split
    · rename_i h
      intro e
      simp only [List.cons_append, List.nil_append, List.cons.injEq] at e
      exact ne37 h e.1
    · simp
theorem uw_word (p : List UInt8) : uwB (wordV p) = true ∧ uwS (wordV p) = p := by
  unfold wordV
  cases h : (p == []) with
  | true => exact ⟨rfl, (eq_of_beq h).symm⟩
  | false =>
    have h : p ≠ [] := fun e => by rw [e] at h; simp at h
    have h1 : (escV p == [37]) = false := beq_eq_false_iff_ne.2 (esc_ne37 p)
    unfold uwB uwS
    rw [cond_false, h1]
    have e1 : unE (escV p) = 0 := by unfold unE; rw [un_esc]; rfl
    have e2 : unS (escV p) = p := by unfold unS; rw [un_esc]; rfl
    rw [e1, e2, beq_eq_false_iff_ne.2 h]
    exact ⟨rfl, rfl⟩
theorem word_uw {w : List UInt8} (h : uwB w = true) : wordV (uwS w) = w := by
  unfold uwB at h
  unfold uwS
  cases h1 : (w == [37]) with
  | true => rw [eq_of_beq h1]; rfl
  | false =>
    rw [h1] at h
    simp only [Bool.false_or, Bool.and_eq_true, Bool.not_eq_true'] at h
    obtain ⟨h2, h3⟩ := h
    rw [cond_false]
    unfold wordV
    rw [h3, cond_false]
    unfold unE at h2
    cases hu : unV w with
    | none => rw [hu] at h2; exact absurd h2 (by decide)
    | some c =>
      have : unS w = c := by unfold unS; rw [hu]; rfl
      rw [this]
      exact esc_un _ w c (Nat.le_refl _) hu
theorem first_ok (b : Bool) : ∀ c ∈ firstW b, c ≠ 32 := by cases b <;> decide
/-! ### a grant's text -/
def gD (q : Bool × List UInt8 × List UInt8 × List UInt8) : D := .agg [.bool q.1, .str q.2.1, .str q.2.2.1, .str q.2.2.2]
def textS : D → List UInt8
  | .agg [.bool b, .str w, .str t, .str k] => bif grB [.agg [.bool b, .str w, .str t, .str k]] then joinV [.str (firstW b), .str (wordV w), .str (wordV t), .str (wordV k)] [32] else []
  | _ => []
def textE (g : D) : Int := bif grB [g] then 0 else 2
def paL (s : List UInt8) : Option (Bool × List UInt8 × List UInt8 × List UInt8) := match spl 32 s with
  | [a, b, c, d] => bif (a == allowW || a == denyW) && (uwB b && (uwB c && uwB d)) then some (a == denyW, uwS b, uwS c, uwS d) else none
  | _ => none
def paE (s : List UInt8) : Int := match paL s with
  | none => 5
  | some q => bif grB [gD q] then 0 else 2
def paQ (s : List UInt8) : Bool × List UInt8 × List UInt8 × List UInt8 := match paL s with
  | none => (false, [], [], [])
  | some q => bif grB [gD q] then q else (false, [], [], [])
def pa0 (s : List UInt8) : Bool := (paQ s).1
def pa1 (s : List UInt8) : List UInt8 := (paQ s).2.1
def pa2 (s : List UInt8) : List UInt8 := (paQ s).2.2.1
def pa3 (s : List UInt8) : List UInt8 := (paQ s).2.2.2
theorem join4 (a b c d : List UInt8) : joinV [.str a, .str b, .str c, .str d] [32] = a ++ 32 :: (b ++ 32 :: (c ++ 32 :: d)) := by
  simp [joinV, txt, Lib.join, List.intercalate]
theorem gD_eq (s : List UInt8) : D.agg [.bool (pa0 s), .str (pa1 s), .str (pa2 s), .str (pa3 s)] = gD (paQ s) := rfl
theorem text_gD (q : Bool × List UInt8 × List UInt8 × List UInt8) : textS (gD q) = bif grB [gD q] then firstW q.1 ++ 32 :: (wordV q.2.1 ++ 32 :: (wordV q.2.2.1 ++ 32 :: wordV q.2.2.2)) else [] := by
  obtain ⟨b, w, t, k⟩ := q
  show (bif _ then _ else _) = _
  rw [join4]; rfl
theorem first_in (b : Bool) : (firstW b == allowW || firstW b == denyW) = true ∧ (firstW b == denyW) = b := by cases b <;> decide
theorem pa_text {q : Bool × List UInt8 × List UInt8 × List UInt8} (h : grB [gD q] = true) : paL (textS (gD q)) = some q := by
  obtain ⟨b, w, t, k⟩ := q
  rw [text_gD, h, cond_true]
  unfold paL
  rw [spl_app 32 _ _ (first_ok b), spl_app 32 _ _ (word_ok w), spl_app 32 _ _ (word_ok t), spl_one 32 _ (word_ok k)]
  show (bif (firstW b == allowW || firstW b == denyW) && (uwB (wordV w) && (uwB (wordV t) && uwB (wordV k))) then some (firstW b == denyW, uwS (wordV w), uwS (wordV t), uwS (wordV k)) else none) = _
  rw [(first_in b).1, (first_in b).2, (uw_word w).1, (uw_word w).2, (uw_word t).1, (uw_word t).2, (uw_word k).1, (uw_word k).2]
  rfl
theorem first_of {a : List UInt8} (h : (a == allowW || a == denyW) = true) : firstW (a == denyW) = a := by
  cases hd : (a == denyW) with
  | true => exact (eq_of_beq hd).symm
  | false => rw [hd, Bool.or_false] at h; exact (eq_of_beq h).symm
theorem text_pa {s : List UInt8} {q : Bool × List UInt8 × List UInt8 × List UInt8} (h : paL s = some q) (hg : grB [gD q] = true) : textS (gD q) = s := by
  rw [text_gD, hg, cond_true]
  have hj := join_spl 32 s
  unfold paL at h
  split at h
  · rename_i a b c d hs
    obtain ⟨hc, h⟩ := cond_some h
    simp only [Bool.and_eq_true] at hc
    obtain ⟨h1, h2, h3, h4⟩ := hc
    cases h
    rw [hs] at hj
    simp only [first_of h1, word_uw h2, word_uw h3, word_uw h4]
    rw [← hj]
    simp [Lib.join, List.intercalate]
  · exact absurd h (by simp)
end Go.Proofs.YtjbemleloffafaaDoor.V
