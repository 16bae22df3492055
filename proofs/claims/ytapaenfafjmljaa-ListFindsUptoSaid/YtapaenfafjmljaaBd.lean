/- GtP, TgQ, GtB, GrF, GtC, ClA, ClB, ClC, TgB, TgC, TgD, TgE, TgF, TgG, TgH, TgI, RuP, RuB, RuC, RuD, RuT, RuU, RuV, LsE, LsB, LsP, LsV, LsG, LsK, LsL: texts of this claim, put together in build order by program. -/
import Derived.Test.YtapaenfafjmljaaBc
import Derived.Shelf.Unicode.ValidAny
import Derived.Shelf.Strings.Cut
import Derived.Lib.IndexMore
/- Grants as text: what the functions come to; splitting at blanks; a grant's text read again. No program in sight. -/
namespace Go.Proofs.Ytapaenfafjmljaa.V
open Go
set_option maxRecDepth 100000
set_option linter.unusedVariables false
set_option linter.unusedSimpArgs false
def wordV (p : List UInt8) : List UInt8 := bif p == [] then [37] else escV p
def uwS (s : List UInt8) : List UInt8 := bif s == [37] then [] else unS s
def uwB (s : List UInt8) : Bool := s == [37] || (unE s == 0 && !(unS s == []))
def denyW : List UInt8 := [100, 101, 110, 121]
def allowW : List UInt8 := [97, 108, 108, 111, 119]
def firstW (b : Bool) : List UInt8 := bif b then denyW else allowW
/-! ### splitting -/
def consHd (c : UInt8) : List (List UInt8) → List (List UInt8)
  | [] => [[c]]
  | p :: r => (c :: p) :: r
def spl (k : UInt8) : List UInt8 → List (List UInt8)
  | [] => [[]]
  | c :: r => if c = k then [] :: spl k r else consHd c (spl k r)
theorem splitK_cons {k : UInt8} {c : UInt8} (hc : c ≠ k) (r : List UInt8) (n : Nat) : Lib.splitK [k] 0 n (c :: r) = consHd c (Lib.splitK [k] 0 n r) := by
  cases n with
  | zero => rfl
  | succ n =>
    have hp : List.isPrefixOf [k] (c :: r) = false := by simp [List.isPrefixOf, Ne.symm hc]
    have hge := Lib.index_ge r [k]
    simp only [Lib.splitK]
    rw [Lib.index, hp]
    simp only [Bool.false_eq_true, if_false]
    by_cases h : Lib.index r [k] = -1
    · rw [h]; rfl
    · have h2 : (Lib.index r [k] == -1) = false := by simpa using h
      have h3 : (Lib.index r [k] + 1 == -1) = false := by simp <;> omega
      rw [h2]
      simp only [Bool.false_eq_true, if_false]
      rw [h3]
      simp only [Bool.false_eq_true, if_false, Nat.add_zero]
      rw [show (Lib.index r [k] + 1).toNat = (Lib.index r [k]).toNat + 1 by omega, List.take_succ_cons, show (Lib.index r [k]).toNat + 1 + [(k : UInt8)].length = ((Lib.index r [k]).toNat + [(k : UInt8)].length) + 1 by omega, List.drop_succ_cons]
      rfl
theorem split_spl (k : UInt8) : ∀ s : List UInt8, Lib.split s [k] = spl k s
  | [] => by rfl
  | c :: r => by
    have ih := split_spl k r
    unfold Lib.split at ih ⊢
    rw [Lib.count_one] at ih ⊢
    by_cases hc : c = k
    · subst hc
      have hp : List.isPrefixOf [c] (c :: r) = true := by simp [List.isPrefixOf]
      rw [List.count_cons_self, Lib.splitK, Lib.index, if_pos hp]
      simp only [spl, if_true]
      rw [← ih]
      rfl
    · rw [List.count_cons_of_ne (by simpa using hc), splitK_cons hc, ih]
      simp only [spl, if_neg hc]
theorem spl_ne (k : UInt8) (s : List UInt8) : spl k s ≠ [] := by
  cases s with
  | nil => simp [spl]
  | cons c r =>
    rw [spl]
    split
    · simp
    · cases spl k r <;> simp [consHd]
theorem spl_app (k : UInt8) : ∀ (x r : List UInt8), (∀ c ∈ x, c ≠ k) → spl k (x ++ k :: r) = x :: spl k r
  | [], r, _ => by simp [spl]
  | c :: x, r, h => by
    rw [List.cons_append, spl, if_neg (h c (by simp)), spl_app k x r fun d hd => h d (by simp [hd])]; rfl
theorem spl_one (k : UInt8) : ∀ (x : List UInt8), (∀ c ∈ x, c ≠ k) → spl k x = [x]
  | [], _ => rfl
  | c :: x, h => by rw [spl, if_neg (h c (by simp)), spl_one k x fun d hd => h d (by simp [hd])]; rfl
theorem join_cons (x : List UInt8) {l : List (List UInt8)} (h : l ≠ []) (sep : List UInt8) : Lib.join (x :: l) sep = x ++ sep ++ Lib.join l sep := by
  cases l with
  | nil => exact absurd rfl h
  | cons y r => simp [Lib.join, List.intercalate]
theorem join_spl (k : UInt8) : ∀ s : List UInt8, Lib.join (spl k s) [k] = s
  | [] => by simp [spl, Lib.join_one]
  | c :: r => by
    rw [spl]
    have ih := join_spl k r
    split
    · rename_i h
      rw [join_cons [] (spl_ne k r), ih, h]; rfl
    · have hn := spl_ne k r
      cases hs : spl k r with
      | nil => exact absurd hs hn
      | cons p q =>
        rw [hs] at ih
        cases q with
        | nil => simp only [consHd, Lib.join_one] at ih ⊢; rw [ih]
        | cons y z => rw [consHd, join_cons (c :: p) (by simp)]; rw [join_cons p (by simp)] at ih; rw [List.cons_append, List.cons_append, ih]
theorem spl_len (k : UInt8) : ∀ (s : List UInt8), ∀ p ∈ spl k s, p.length ≤ s.length
  | [], p, h => by simp [spl] at h; subst h; simp
  | c :: r, p, h => by
    rw [spl] at h
    have ih := spl_len k r
    split at h
    · rcases List.mem_cons.1 h with rfl | h
      · simp
      · have := ih p h; simp; omega
    · cases hs : spl k r with
      | nil => exact absurd hs (spl_ne k r)
      | cons y z =>
        rw [hs] at h ih
        rw [consHd] at h
        rcases List.mem_cons.1 h with rfl | h
        · have := ih y (by simp); simp; omega
        · have := ih p (List.mem_cons_of_mem _ h); simp; omega
theorem spl_num (k : UInt8) : ∀ (s : List UInt8), (spl k s).length ≤ s.length + 1
  | [] => Nat.le_refl _
  | c :: r => by
    rw [spl]
    have ih := spl_num k r
    split
    · simp; omega
    · cases hs : spl k r with
      | nil => simp [consHd]
      | cons y z => rw [hs] at ih; rw [consHd]; simp at ih ⊢; omega
/-! ### a word -/
theorem okB32 {c : UInt8} (h : okB c = true) : c ≠ 32 := fun e => by subst e; revert h; decide
theorem word_ok (p : List UInt8) : ∀ c ∈ wordV p, c ≠ 32 := by
  unfold wordV
  cases h : (p == []) with
  | true => simp
  | false => exact fun c hc => okB32 (List.all_eq_true.1 (esc_all p) c hc)
theorem encB_ne (c : UInt8) : encB c ≠ [] := by unfold encB; split <;> simp
theorem esc_ne {p : List UInt8} (h : p ≠ []) : escV p ≠ [] := by
  cases p with
  | nil => exact absurd rfl h
  | cons c r => rw [escV]; intro e; exact encB_ne c (List.append_eq_nil_iff.1 e).1
theorem esc_ne37 (p : List UInt8) : escV p ≠ [37] := by
  cases p with
  | nil => simp [escV]
  | cons c r =>
    rw [escV, encB]
    split
    · rename_i h
      intro e
      simp only [List.cons_append, List.nil_append, List.cons.injEq] at e
      exact ne37 h e.1
    · simp
theorem uw_word (p : List UInt8) : uwB (wordV p) = true ∧ uwS (wordV p) = p := by
  unfold wordV
  cases h : (p == []) with
  | true => exact ⟨rfl, (eq_of_beq h).symm⟩
  | false =>
    have h : p ≠ [] := fun e => by rw [e] at h; simp at h
    have h1 : (escV p == [37]) = false := beq_eq_false_iff_ne.2 (esc_ne37 p)
    unfold uwB uwS
    rw [cond_false, h1]
    have e1 : unE (escV p) = 0 := by unfold unE; rw [un_esc]; rfl
    have e2 : unS (escV p) = p := by unfold unS; rw [un_esc]; rfl
    rw [e1, e2, beq_eq_false_iff_ne.2 h]
    exact ⟨rfl, rfl⟩
theorem word_uw {w : List UInt8} (h : uwB w = true) : wordV (uwS w) = w := by
  unfold uwB at h
  unfold uwS
  cases h1 : (w == [37]) with
  | true => rw [eq_of_beq h1]; rfl
  | false =>
    rw [h1] at h
    simp only [Bool.false_or, Bool.and_eq_true, Bool.not_eq_true'] at h
    obtain ⟨h2, h3⟩ := h
    rw [cond_false]
    unfold wordV
    rw [h3, cond_false]
    unfold unE at h2
    cases hu : unV w with
    | none => rw [hu] at h2; exact absurd h2 (by decide)
    | some c =>
      have : unS w = c := by unfold unS; rw [hu]; rfl
      rw [this]
      exact esc_un _ w c (Nat.le_refl _) hu
theorem first_ok (b : Bool) : ∀ c ∈ firstW b, c ≠ 32 := by cases b <;> decide
/-! ### a grant's text -/
def gD (q : Bool × List UInt8 × List UInt8 × List UInt8) : D := .agg [.bool q.1, .str q.2.1, .str q.2.2.1, .str q.2.2.2]
def textS : D → List UInt8
  | .agg [.bool b, .str w, .str t, .str k] => bif grB [.agg [.bool b, .str w, .str t, .str k]] then joinV [.str (firstW b), .str (wordV w), .str (wordV t), .str (wordV k)] [32] else []
  | _ => []
def textE (g : D) : Int := bif grB [g] then 0 else 2
def paL (s : List UInt8) : Option (Bool × List UInt8 × List UInt8 × List UInt8) := match spl 32 s with
  | [a, b, c, d] => bif (a == allowW || a == denyW) && (uwB b && (uwB c && uwB d)) then some (a == denyW, uwS b, uwS c, uwS d) else none
  | _ => none
def paE (s : List UInt8) : Int := match paL s with
  | none => 5
  | some q => bif grB [gD q] then 0 else 2
def paQ (s : List UInt8) : Bool × List UInt8 × List UInt8 × List UInt8 := match paL s with
  | none => (false, [], [], [])
  | some q => bif grB [gD q] then q else (false, [], [], [])
def pa0 (s : List UInt8) : Bool := (paQ s).1
def pa1 (s : List UInt8) : List UInt8 := (paQ s).2.1
def pa2 (s : List UInt8) : List UInt8 := (paQ s).2.2.1
def pa3 (s : List UInt8) : List UInt8 := (paQ s).2.2.2
theorem join4 (a b c d : List UInt8) : joinV [.str a, .str b, .str c, .str d] [32] = a ++ 32 :: (b ++ 32 :: (c ++ 32 :: d)) := by
  simp [joinV, txt, Lib.join, List.intercalate]
theorem gD_eq (s : List UInt8) : D.agg [.bool (pa0 s), .str (pa1 s), .str (pa2 s), .str (pa3 s)] = gD (paQ s) := rfl
theorem text_gD (q : Bool × List UInt8 × List UInt8 × List UInt8) : textS (gD q) = bif grB [gD q] then firstW q.1 ++ 32 :: (wordV q.2.1 ++ 32 :: (wordV q.2.2.1 ++ 32 :: wordV q.2.2.2)) else [] := by
  obtain ⟨b, w, t, k⟩ := q
  show (bif _ then _ else _) = _
  rw [join4]; rfl
theorem first_in (b : Bool) : (firstW b == allowW || firstW b == denyW) = true ∧ (firstW b == denyW) = b := by cases b <;> decide
theorem pa_text {q : Bool × List UInt8 × List UInt8 × List UInt8} (h : grB [gD q] = true) : paL (textS (gD q)) = some q := by
  obtain ⟨b, w, t, k⟩ := q
  rw [text_gD, h, cond_true]
  unfold paL
  rw [spl_app 32 _ _ (first_ok b), spl_app 32 _ _ (word_ok w), spl_app 32 _ _ (word_ok t), spl_one 32 _ (word_ok k)]
  show (bif (firstW b == allowW || firstW b == denyW) && (uwB (wordV w) && (uwB (wordV t) && uwB (wordV k))) then some (firstW b == denyW, uwS (wordV w), uwS (wordV t), uwS (wordV k)) else none) = _
  rw [(first_in b).1, (first_in b).2, (uw_word w).1, (uw_word w).2, (uw_word t).1, (uw_word t).2, (uw_word k).1, (uw_word k).2]
  rfl
theorem first_of {a : List UInt8} (h : (a == allowW || a == denyW) = true) : firstW (a == denyW) = a := by
  cases hd : (a == denyW) with
  | true => exact (eq_of_beq hd).symm
  | false => rw [hd, Bool.or_false] at h; exact (eq_of_beq h).symm
theorem text_pa {s : List UInt8} {q : Bool × List UInt8 × List UInt8 × List UInt8} (h : paL s = some q) (hg : grB [gD q] = true) : textS (gD q) = s := by
  rw [text_gD, hg, cond_true]
  have hj := join_spl 32 s
  unfold paL at h
  split at h
  · rename_i a b c d hs
    obtain ⟨hc, h⟩ := cond_some h
    simp only [Bool.and_eq_true] at hc
    obtain ⟨h1, h2, h3, h4⟩ := hc
    cases h
    rw [hs] at hj
    simp only [first_of h1, word_uw h2, word_uw h3, word_uw h4]
    rw [← hj]
    simp [Lib.join, List.intercalate]
  · exact absurd h (by simp)
end Go.Proofs.Ytapaenfafjmljaa.V

/- Tags as text: what the functions come to, and what the laws say of it. No program in sight. -/
namespace Go.Proofs.Ytapaenfafjmljaa.V
open Go
set_option maxRecDepth 100000
set_option linter.unusedVariables false
set_option linter.unusedSimpArgs false
/-! ### a text at a sign -/
def cutE : List UInt8 → Option (List UInt8 × List UInt8)
  | [] => none
  | c :: r => if c = 61 then some ([], r) else (cutE r).map fun q => (c :: q.1, q.2)
theorem cutE_some : ∀ {p a b : List UInt8}, cutE p = some (a, b) → p = a ++ 61 :: b ∧ (61 : UInt8) ∉ a
  | [], a, b, h => by simp [cutE] at h
  | c :: r, a, b, h => by
    rw [cutE] at h
    by_cases hc : c = 61
    · rw [if_pos hc] at h
      cases h
      exact ⟨by rw [hc]; rfl, by simp⟩
    · rw [if_neg hc] at h
      cases hr : cutE r with
      | none => rw [hr] at h; simp at h
      | some q =>
        obtain ⟨a', b'⟩ := q
        rw [hr] at h
        simp only [Option.map_some, Option.some.injEq, Prod.mk.injEq] at h
        obtain ⟨rfl, rfl⟩ := h
        obtain ⟨h1, h2⟩ := cutE_some hr
        exact ⟨by rw [h1]; rfl, by simp [h2, Ne.symm hc]⟩
theorem cutE_app : ∀ {a : List UInt8} (b : List UInt8), (61 : UInt8) ∉ a → cutE (a ++ 61 :: b) = some (a, b)
  | [], b, _ => by rw [List.nil_append, cutE, if_pos rfl]
  | c :: a, b, h => by
    have h : ¬ (61 = c) ∧ (61 : UInt8) ∉ a := by simpa using h
    rw [List.cons_append, cutE, if_neg (Ne.symm h.1), cutE_app b h.2]; rfl
theorem cutE_none : ∀ {p : List UInt8}, cutE p = none → (61 : UInt8) ∉ p
  | [], _ => by simp
  | c :: r, h => by
    rw [cutE] at h
    by_cases hc : c = 61
    · rw [if_pos hc] at h; exact absurd h (by simp)
    · rw [if_neg hc] at h
      have := cutE_none (p := r) (by simpa using h)
      simp [this, Ne.symm hc]
theorem cut_cutE : ∀ p : List UInt8, Lib.cut p [61] = match cutE p with | some (a, b) => (a, b, true) | none => (p, [], false)
  | [] => rfl
  | c :: r => by
    have ih := cut_cutE r
    have hge := Lib.index_ge r [61]
    rw [cutE]
    by_cases hc : c = 61
    · subst hc
      have : Lib.index (61 :: r) [61] = 0 := by rw [Lib.index]; simp [List.isPrefixOf]
      unfold Lib.cut
      rw [this, if_pos (Int.le_refl 0), if_pos rfl]
      simp
    · rw [if_neg hc]
      have hp : List.isPrefixOf [61] (c :: r) = false := by simp [List.isPrefixOf, Ne.symm hc]
      by_cases hi : Lib.index r [61] = -1
      · have h1 : Lib.index (c :: r) [61] = -1 := by rw [Lib.index, hp, hi]; rfl
        unfold Lib.cut at ih ⊢
        rw [hi, if_neg (by omega)] at ih
        rw [h1, if_neg (by omega)]
        cases hr : cutE r with
        | none => rfl
        | some q => obtain ⟨a, b⟩ := q; rw [hr] at ih; simp at ih
      · have h1 : Lib.index (c :: r) [61] = Lib.index r [61] + 1 := by
          rw [Lib.index, hp]
          simp only [Bool.false_eq_true, if_false]
          have h2 : (Lib.index r [61] == -1) = false := by simpa using hi
          rw [h2]; simp
        unfold Lib.cut at ih ⊢
        rw [if_pos (by omega)] at ih
        rw [h1, if_pos (by omega)]
        cases hr : cutE r with
        | none => rw [hr] at ih; simp at ih
        | some q =>
          obtain ⟨a, b⟩ := q
          rw [hr] at ih
          simp only [Prod.mk.injEq, and_true] at ih
          rw [show (Lib.index r [61] + 1).toNat = (Lib.index r [61]).toNat + 1 by omega, List.take_succ_cons, ih.1, show (Lib.index r [61]).toNat + 1 + [(61 : UInt8)].length = ((Lib.index r [61]).toNat + [(61 : UInt8)].length) + 1 by omega, List.drop_succ_cons, ih.2]
          rfl
/-! ### a part -/
def ptT (t : D) : List UInt8 := escV (nmT t) ++ 61 :: escV (vlT t)
def prP (p : List UInt8) : Option D := match cutE p with
  | none => none
  | some (a, b) => bif unE a == 0 && unE b == 0 then some (mkT (unS a) (unS b)) else none
def prL : List (List UInt8) → Option (List D)
  | [] => some []
  | p :: r => match prP p with
    | none => none
    | some t => (prL r).map (t :: ·)
def joinT (l : List D) : List UInt8 := Lib.join (l.map ptT) [38]
def txS (l : List D) : List UInt8 := bif tsB l then joinT l else []
def txE (l : List D) : Int := bif tsB l then 0 else 2
def psE (s : List UInt8) : Int := bif s == [] then 0 else match prL (spl 38 s) with
  | none => 5
  | some l => bif tsB l then 0 else 2
def psL (s : List UInt8) : List D := bif s == [] then [] else match prL (spl 38 s) with
  | none => []
  | some l => bif tsB l then l else []
theorem okB61 {c : UInt8} (h : okB c = true) : c ≠ 61 := fun e => by subst e; revert h; decide
theorem okB38 {c : UInt8} (h : okB c = true) : c ≠ 38 := fun e => by subst e; revert h; decide
theorem esc_no61 (s : List UInt8) : (61 : UInt8) ∉ escV s := fun h => okB61 (List.all_eq_true.1 (esc_all s) _ h) rfl
theorem esc_no38 (s : List UInt8) : ∀ c ∈ escV s, c ≠ 38 := fun c hc => okB38 (List.all_eq_true.1 (esc_all s) c hc)
theorem un_escE (s : List UInt8) : unE (escV s) = 0 ∧ unS (escV s) = s := by unfold unE unS; rw [un_esc]; exact ⟨rfl, rfl⟩
theorem esc_unS {s : List UInt8} (h : unE s = 0) : escV (unS s) = s := by
  unfold unE at h
  cases hu : unV s with
  | none => rw [hu] at h; exact absurd h (by decide)
  | some c => unfold unS; rw [hu]; exact esc_un _ s c (Nat.le_refl _) hu
theorem un_no61 {s : List UInt8} (h : unE s = 0) : (61 : UInt8) ∉ s := by rw [← esc_unS h]; exact esc_no61 _
theorem pt_no38 (t : D) : ∀ c ∈ ptT t, c ≠ 38 := by
  intro c hc
  unfold ptT at hc
  rw [List.mem_append, List.mem_cons] at hc
  rcases hc with hc | rfl | hc
  · exact esc_no38 _ c hc
  · decide
  · exact esc_no38 _ c hc
theorem pr_pt {t : D} (h : isT t = true) : prP (ptT t) = some t := by
  unfold prP ptT
  rw [cutE_app _ (esc_no61 _)]
  simp only
  rw [(un_escE _).1, (un_escE _).1, (un_escE _).2, (un_escE _).2, ← isT_eq h]
  rfl
theorem pt_pr {p : List UInt8} {t : D} (h : prP p = some t) : ptT t = p ∧ isT t = true := by
  unfold prP at h
  split at h
  · exact absurd h (by simp)
  · rename_i a b hc
    obtain ⟨h1, h⟩ := cond_some h
    cases h
    simp only [Bool.and_eq_true, beq_iff_eq] at h1
    refine ⟨?_, rfl⟩
    unfold ptT
    show escV (unS a) ++ 61 :: escV (unS b) = p
    rw [esc_unS h1.1, esc_unS h1.2, (cutE_some hc).1]
theorem prL_pts : ∀ {l : List D}, l.all isT = true → prL (l.map ptT) = some l
  | [], _ => rfl
  | t :: r, h => by
    have h : isT t = true ∧ r.all isT = true := by simpa using h
    rw [List.map_cons, prL, pr_pt h.1]
    simp only
    rw [prL_pts h.2]; rfl
theorem pts_prL : ∀ {q : List (List UInt8)} {l : List D}, prL q = some l → l.map ptT = q ∧ l.all isT = true
  | [], l, h => by rw [prL] at h; cases h; exact ⟨rfl, rfl⟩
  | p :: q, l, h => by
    rw [prL] at h
    cases hp : prP p with
    | none => rw [hp] at h; exact absurd h (by simp)
    | some t =>
      rw [hp] at h
      simp only at h
      cases hq : prL q with
      | none => rw [hq] at h; exact absurd h (by simp)
      | some m =>
        rw [hq] at h
        simp only [Option.map_some, Option.some.injEq] at h
        subst h
        obtain ⟨h1, h2⟩ := pts_prL hq
        obtain ⟨h3, h4⟩ := pt_pr hp
        exact ⟨by rw [List.map_cons, h1, h3], by rw [List.all_cons, h2, h4]; rfl⟩
theorem spl_parts : ∀ {q : List (List UInt8)}, q ≠ [] → (∀ p ∈ q, ∀ c ∈ p, c ≠ (38 : UInt8)) → spl 38 (Lib.join q [38]) = q
  | [], h, _ => absurd rfl h
  | [p], _, h => by rw [Lib.join_one, spl_one 38 p (h p (by simp))]
  | p :: x :: q, _, h => by
    rw [join_cons p (by simp), List.append_assoc]
    show spl 38 (p ++ 38 :: Lib.join (x :: q) [38]) = _
    rw [spl_app 38 p _ (h p (by simp)), spl_parts (by simp) fun y hy => h y (List.mem_cons_of_mem _ hy)]
theorem join_ne {t : D} {r : List D} : joinT (t :: r) ≠ [] := by
  unfold joinT
  rw [List.map_cons]
  have : ptT t ≠ [] := by unfold ptT; simp
  cases r with
  | nil => rw [List.map_nil, Lib.join_one]; exact this
  | cons x r => rw [join_cons _ (by simp)]; simp
/-- what is written is read as it was -/
theorem read_written {l : List D} (hl : l.all isT = true) (h : tsB l = true) : psE (txS l) = 0 ∧ psL (txS l) = l := by
  unfold txS
  rw [h, cond_true]
  cases l with
  | nil => exact ⟨rfl, rfl⟩
  | cons t r =>
    have h1 : (joinT (t :: r) == []) = false := beq_eq_false_iff_ne.2 join_ne
    have h2 : spl 38 (joinT (t :: r)) = (t :: r).map ptT := spl_parts (by simp) fun p hp c hc => by
      obtain ⟨t', _, rfl⟩ := List.mem_map.1 hp
      exact pt_no38 t' c hc
    unfold psE psL
    rw [h1, h2, prL_pts hl]
    simp only [cond_false, h, cond_true, and_self]
/-- what is read is written so -/
theorem written_read {s : List UInt8} (h : psE s = 0) : txE (psL s) = 0 ∧ txS (psL s) = s := by
  unfold psE at h
  unfold psL
  cases hs : s == [] with
  | true => rw [eq_of_beq hs]; exact ⟨rfl, rfl⟩
  | false =>
    rw [hs, cond_false] at h
    rw [cond_false]
    cases hp : prL (spl 38 s) with
    | none => rw [hp] at h; exact absurd h (by decide)
    | some l =>
      rw [hp] at h
      simp only at h ⊢
      cases ht : tsB l with
      | false => rw [ht] at h; exact absurd h (by decide)
      | true =>
        rw [cond_true]
        unfold txE txS
        rw [ht]
        refine ⟨rfl, ?_⟩
        rw [cond_true]
        unfold joinT
        rw [(pts_prL hp).1, join_spl]
/-- parts with more than one sign -/
theorem pr_count {p : List UInt8} (h : p.count 61 ≠ 1) : prP p = none := by
  unfold prP
  cases hc : cutE p with
  | none => rfl
  | some q =>
    obtain ⟨a, b⟩ := q
    obtain ⟨h1, h2⟩ := cutE_some hc
    simp only
    cases hb : unE b == 0 with
    | false => simp
    | true =>
      have := un_no61 (eq_of_beq hb)
      rw [h1, List.count_append, List.count_cons_self, List.count_eq_zero.2 h2, List.count_eq_zero.2 this] at h
      exact absurd rfl h
end Go.Proofs.Ytapaenfafjmljaa.V

/- Grants as text: what the machine over values makes of the texts: equations, written by program; the functions of the contracts are variables. -/
namespace Go.Proofs.Ytapaenfafjmljaa.V
open Go
set_option maxRecDepth 100000
set_option linter.unusedVariables false
def spJ (C : List D → List UInt8 → Bool) (J : List D → List UInt8 → List UInt8) (args : List AV) : Option (Bool × AV) := match args with
  | [.sl 9 _ l, .s p] => some (C l p, .s (J l p))
  | _ => none
def spSp (sh : List UInt8 → Bool) (Sp : List UInt8 → List D) (args : List AV) : Option (Bool × AV) := match args with
  | [.s s, .s [32]] => some (sh s, .sl 9 .ex (Sp s))
  | _ => none
variable {mx : Int}
end Go.Proofs.Ytapaenfafjmljaa.V

/- Grants: contracts of Allows and the document's Allows; the simplest facts; the law of Allows. -/
namespace Go.Proofs.Ytapaenfafjmljaa.V
open Go
set_option maxRecDepth 1000000
set_option linter.unusedVariables false
set_option linter.unusedSimpArgs false
variable {mx : Int}
theorem askC_eq {a : D} (h : askC a = true) : ∃ x y z, a = .agg [.str x, .str y, .str z] ∧ short x = true ∧ short y = true ∧ short z = true := by
  unfold askC at h
  split at h
  · simp only [Bool.and_eq_true] at h
    exact ⟨_, _, _, rfl, h.1, h.2.1, h.2.2⟩
  · exact absurd h (by simp)
/-! ### Allows -/
def fin13 (b : Bool) (M : D → Bool) (l : List D) : Bool := (b || l.any M) && !l.any fun g => M g && gDeny g
theorem alC_eq {l : List D} {x y z : List UInt8} (h : alC l x y z = true) : allG l = true ∧ askC (.agg [.str x, .str y, .str z]) = true := by
  unfold alC at h
  simp only [Bool.and_eq_true] at h
  exact ⟨h.1, by unfold askC; simp only [Bool.and_eq_true]; exact h.2⟩
def cntM (M : D → Bool) (b : Bool) : List D → Nat
  | [] => 0
  | g :: r => cntM M b r + (bif M g && (gDeny g == b) then 1 else 0)
theorem cntM_le (M : D → Bool) (b : Bool) : ∀ l : List D, cntM M b l ≤ l.length
  | [] => Nat.le_refl _
  | g :: r => by
    have := cntM_le M b r
    rw [cntM, List.length_cons]
    cases (M g && (gDeny g == b)) <;> simp <;> omega
theorem cnt_fin (M : D → Bool) : ∀ l : List D, (decide (cntM M false l > 0) && decide (cntM M true l = 0)) = (l.any M && !l.any fun g => M g && gDeny g)
  | [] => rfl
  | g :: r => by
    have ih := cnt_fin M r
    rw [cntM, cntM, List.any_cons, List.any_cons]
    cases hM : M g with
    | false => simpa using ih
    | true =>
      cases hd : gDeny g with
      | true => simp
      | false =>
        have h2 : decide (cntM M true r = 0) = !r.any fun g => M g && gDeny g := by
          clear ih
          induction r with
          | nil => rfl
          | cons a s ih =>
            rw [cntM, List.any_cons]
            cases M a <;> cases gDeny a <;> simp_all
        simp [h2]
end Go.Proofs.Ytapaenfafjmljaa.V

/- Grants as text: contracts. -/
namespace Go.Proofs.Ytapaenfafjmljaa.V
open Go
set_option maxRecDepth 100000
set_option linter.unusedVariables false
set_option linter.unusedSimpArgs false
variable {mx : Int}
theorem short_le {p : List UInt8} (h : short p = true) : p.length ≤ 4194304 := of_decide_eq_true h
theorem short_of {p : List UInt8} (h : p.length ≤ 4194304) : short p = true := decide_eq_true h
/-! ### the document's Words -/
def catHd (cur : List UInt8) : List (List UInt8) → List (List UInt8)
  | [] => [cur]
  | p :: q => (cur ++ p) :: q
theorem catHd_nil {L : List (List UInt8)} (h : L ≠ []) : catHd [] L = L := by
  cases L with
  | nil => exact absurd rfl h
  | cons p q => rfl
theorem catHd_cons (cur : List UInt8) (c : UInt8) {L : List (List UInt8)} (h : L ≠ []) : catHd cur (consHd c L) = catHd (cur ++ [c]) L := by
  cases L with
  | nil => exact absurd rfl h
  | cons p q => simp [catHd, consHd]
theorem lget_end {R : Type} (l : List D) (x : D) (K : D → Option R) : lGet (l ++ [x]) l.length K = K x := by unfold lGet; simp
theorem is32 (c : UInt8) : ((c.toNat : Int) == 32) = decide (c = 32) := by
  by_cases h : c = 32
  · subst h; rfl
  · rw [decide_eq_false h]
    have : c.toNat ≠ 32 := fun e => h (UInt8.toNat_inj.1 (by rw [e]; rfl))
    simp; omega
theorem room16b {n : Nat} (h : n ≤ 10000000) : roomB n 16 = true := by
  unfold roomB
  simp only [Bool.and_eq_true, decide_eq_true_eq]
  exact ⟨rfl, by omega⟩
/-! ### Text -/
theorem pcB_len {p : List UInt8} (h : pcB p = true) : p.length ≤ 200 := by
  unfold pcB at h
  simp only [Bool.and_eq_true, decide_eq_true_eq] at h
  exact h.1
theorem word_len (p : List UInt8) : (wordV p).length ≤ 3 * p.length + 1 := by
  unfold wordV
  cases (p == []) with
  | true => simp
  | false => have := esc_len p; simp; omega
theorem gr1 {b : Bool} {w t k : List UInt8} (h : grB [.agg [.bool b, .str w, .str t, .str k]] = true) : w.length ≤ 200 ∧ t.length ≤ 200 ∧ k.length ≤ 200 := by
  have h : (true && ((pcB w && (pcB t && pcB k)) && true)) = true := h
  simp only [Bool.true_and, Bool.and_true, Bool.and_eq_true] at h
  exact ⟨pcB_len h.1, pcB_len h.2.1, pcB_len h.2.2⟩
theorem allG1 (b : Bool) (w t k : List UInt8) : allG [.agg [.bool b, .str w, .str t, .str k]] = true := rfl
/-! ### Parse -/
def PA (p : List UInt8) : AV := .tuple [.d 103 (D.agg [D.bool (pa0 p), D.str (pa1 p), D.str (pa2 p), D.str (pa3 p)]), .i .i64 (paE p)]
def zA (e : Int) : AV := .tuple [.d 103 (D.agg [D.bool false, D.str [], D.str [], D.str []]), .i .i64 e]
theorem PA_none {s : List UInt8} (h : paL s = none) : PA s = zA 5 := by unfold PA zA pa0 pa1 pa2 pa3 paQ paE; rw [h]
theorem PA_form {s : List UInt8} {q : Bool × List UInt8 × List UInt8 × List UInt8} (h : paL s = some q) (hg : grB [gD q] = false) : PA s = zA 2 := by unfold PA zA pa0 pa1 pa2 pa3 paQ paE; rw [h]; simp only [hg, cond_false]
theorem PA_ok {s : List UInt8} {q : Bool × List UInt8 × List UInt8 × List UInt8} (h : paL s = some q) (hg : grB [gD q] = true) : PA s = .tuple [.d 103 (gD q), .i .i64 0] := by unfold PA pa0 pa1 pa2 pa3 paQ paE; rw [h]; simp only [hg, cond_true]; rfl
theorem len4 {α : Type} {L : List α} (h : ∀ a b c d, L ≠ [a, b, c, d]) : L.length ≠ 4 := fun hl => by
  match L, hl with
  | [a, b, c, d], _ => exact h a b c d rfl
theorem paL_ne {s : List UInt8} (h : ∀ a b c d, spl 32 s ≠ [a, b, c, d]) : paL s = none := by
  unfold paL
  split
  · rename_i a b c d hs; exact absurd hs (h a b c d)
  · rfl
theorem paL_4 {s a b c d : List UInt8} (h : spl 32 s = [a, b, c, d]) : paL s = bif (a == allowW || a == denyW) && (uwB b && (uwB c && uwB d)) then some (a == denyW, uwS b, uwS c, uwS d) else none := by
  unfold paL; rw [h]
theorem split4 {s a b c d : List UInt8} (h : spl 32 s = [a, b, c, d]) : splitC 32 s = [D.str a, D.str b, D.str c, D.str d] := by
  unfold splitC; rw [split_spl, h]; rfl
/-- one word -/
theorem un_uw (b : List UInt8) {R : Type} (A : List UInt8 → R) (Z : R) : (bif b == [37] then A [] else (bif (unE b) != 0 then Z else (bif (unS b) == [] then Z else A (unS b)))) = bif uwB b then A (uwS b) else Z := by
  unfold uwB uwS
  cases (b == [37]) with
  | true => rfl
  | false =>
    rw [show ((unE b) != 0) = !(unE b == 0) from rfl]
    cases (unE b == 0) <;> cases (unS b == []) <;> rfl
/-! ### the laws -/
theorem text_len (b : Bool) (w t k : List UInt8) : (textS (D.agg [D.bool b, D.str w, D.str t, D.str k])).length ≤ 4194304 := by
  have e : textS (.agg [.bool b, .str w, .str t, .str k]) = bif grB [.agg [.bool b, .str w, .str t, .str k]] then joinV [.str (firstW b), .str (wordV w), .str (wordV t), .str (wordV k)] [32] else [] := rfl
  rw [e]
  cases hg : grB [.agg [.bool b, .str w, .str t, .str k]] with
  | false => simp
  | true =>
    obtain ⟨h1, h2, h3⟩ := gr1 hg
    have := word_len w; have := word_len t; have := word_len k
    have : (firstW b).length ≤ 5 := by cases b <;> decide
    rw [join4, cond_true]
    simp only [List.length_append, List.length_cons]; omega
end Go.Proofs.Ytapaenfafjmljaa.V

/- utf8.ValidString, as the library's contract has it. The layings are written by program. -/
namespace Go.Proofs
set_option maxRecDepth 100000
end Go.Proofs
namespace Go.Proofs.Ytapaenfafjmljaa.V
open Go Go.RowKit
set_option maxRecDepth 100000
set_option linter.unusedVariables false
variable {mx : Int}
end Go.Proofs.Ytapaenfafjmljaa.V

/- Clean texts: what the machine over values makes of the functions. Written by program. -/
namespace Go.Proofs.Ytapaenfafjmljaa.V
open Go
set_option maxRecDepth 100000
set_option linter.unusedVariables false
set_option linter.unusedSimpArgs false
variable {mx : Int}
theorem r55 (call : Handle) (lab : Lab) (s : List UInt8) : evF (Γ mx) call lab 45 [.s s] [] =
  lab (todoAt (Γ mx) 45 2) ⟨[(0, .s s), (3, .i .i64 0)], []⟩ := by kernel_rfl
theorem r55_2a (call : Handle) (lab : Lab) (s1 : List UInt8) (n2 : Int) : evL (Γ mx) call lab 45 2 ⟨[(0, .s s1), (3, .i .i64 n2)], []⟩ =
  bif decide (n2 < ((List.length s1 : Int))) then (idx s1 n2 fun c3 => bif decide ((IntKind.wrap .i64 ((c3.toNat : Int))) < 128) then (bif decide ((IntKind.wrap .i64 ((c3.toNat : Int))) < 32) then (some (.b false, [])) else (bif (IntKind.wrap .i64 ((c3.toNat : Int))) == 127 then (some (.b false, [])) else (lab (todoAt (Γ mx) 45 16) ⟨[(0, .s s1), (3, .i .i64 n2), (5, .i .i64 1), (6, .i .i64 (IntKind.wrap .i64 ((c3.toNat : Int)))), (7, .i .i64 0), (8, .i .i64 1)], []⟩))) else (bif decide ((IntKind.wrap .i64 ((c3.toNat : Int))) ≥ 192) then (bif decide ((IntKind.wrap .i64 ((c3.toNat : Int))) < 224) then (bif decide ((IntKind.wrap .i64 ((c3.toNat : Int))) < 32) then (some (.b false, [])) else (bif (IntKind.wrap .i64 ((c3.toNat : Int))) == 127 then (some (.b false, [])) else (lab (todoAt (Γ mx) 45 16) ⟨[(0, .s s1), (3, .i .i64 n2), (5, .i .i64 2), (6, .i .i64 (IntKind.wrap .i64 ((IntKind.wrap .i64 ((c3.toNat : Int))) - 192))), (7, .i .i64 128), (8, .i .i64 1)], []⟩))) else (bif decide ((IntKind.wrap .i64 ((c3.toNat : Int))) ≥ 224) then (bif decide ((IntKind.wrap .i64 ((c3.toNat : Int))) < 240) then (bif decide ((IntKind.wrap .i64 ((c3.toNat : Int))) < 32) then (some (.b false, [])) else (bif (IntKind.wrap .i64 ((c3.toNat : Int))) == 127 then (some (.b false, [])) else (lab (todoAt (Γ mx) 45 16) ⟨[(0, .s s1), (3, .i .i64 n2), (5, .i .i64 3), (6, .i .i64 (IntKind.wrap .i64 ((IntKind.wrap .i64 ((c3.toNat : Int))) - 224))), (7, .i .i64 2048), (8, .i .i64 1)], []⟩))) else (bif decide ((IntKind.wrap .i64 ((c3.toNat : Int))) ≥ 240) then (bif decide ((IntKind.wrap .i64 ((c3.toNat : Int))) < 248) then (bif decide ((IntKind.wrap .i64 ((c3.toNat : Int))) < 32) then (some (.b false, [])) else (bif (IntKind.wrap .i64 ((c3.toNat : Int))) == 127 then (some (.b false, [])) else (lab (todoAt (Γ mx) 45 16) ⟨[(0, .s s1), (3, .i .i64 n2), (5, .i .i64 4), (6, .i .i64 (IntKind.wrap .i64 ((IntKind.wrap .i64 ((c3.toNat : Int))) - 240))), (7, .i .i64 65536), (8, .i .i64 1)], []⟩))) else (some (.b false, []))) else (some (.b false, [])))) else (bif decide ((IntKind.wrap .i64 ((c3.toNat : Int))) ≥ 240) then (bif decide ((IntKind.wrap .i64 ((c3.toNat : Int))) < 248) then (bif decide ((IntKind.wrap .i64 ((c3.toNat : Int))) < 32) then (some (.b false, [])) else (bif (IntKind.wrap .i64 ((c3.toNat : Int))) == 127 then (some (.b false, [])) else (lab (todoAt (Γ mx) 45 16) ⟨[(0, .s s1), (3, .i .i64 n2), (5, .i .i64 4), (6, .i .i64 (IntKind.wrap .i64 ((IntKind.wrap .i64 ((c3.toNat : Int))) - 240))), (7, .i .i64 65536), (8, .i .i64 1)], []⟩))) else (some (.b false, []))) else (some (.b false, []))))) else (bif decide ((IntKind.wrap .i64 ((c3.toNat : Int))) ≥ 224) then (bif decide ((IntKind.wrap .i64 ((c3.toNat : Int))) < 240) then (bif decide ((IntKind.wrap .i64 ((c3.toNat : Int))) < 32) then (some (.b false, [])) else (bif (IntKind.wrap .i64 ((c3.toNat : Int))) == 127 then (some (.b false, [])) else (lab (todoAt (Γ mx) 45 16) ⟨[(0, .s s1), (3, .i .i64 n2), (5, .i .i64 3), (6, .i .i64 (IntKind.wrap .i64 ((IntKind.wrap .i64 ((c3.toNat : Int))) - 224))), (7, .i .i64 2048), (8, .i .i64 1)], []⟩))) else (bif decide ((IntKind.wrap .i64 ((c3.toNat : Int))) ≥ 240) then (bif decide ((IntKind.wrap .i64 ((c3.toNat : Int))) < 248) then (bif decide ((IntKind.wrap .i64 ((c3.toNat : Int))) < 32) then (some (.b false, [])) else (bif (IntKind.wrap .i64 ((c3.toNat : Int))) == 127 then (some (.b false, [])) else (lab (todoAt (Γ mx) 45 16) ⟨[(0, .s s1), (3, .i .i64 n2), (5, .i .i64 4), (6, .i .i64 (IntKind.wrap .i64 ((IntKind.wrap .i64 ((c3.toNat : Int))) - 240))), (7, .i .i64 65536), (8, .i .i64 1)], []⟩))) else (some (.b false, []))) else (some (.b false, [])))) else (bif decide ((IntKind.wrap .i64 ((c3.toNat : Int))) ≥ 240) then (bif decide ((IntKind.wrap .i64 ((c3.toNat : Int))) < 248) then (bif decide ((IntKind.wrap .i64 ((c3.toNat : Int))) < 32) then (some (.b false, [])) else (bif (IntKind.wrap .i64 ((c3.toNat : Int))) == 127 then (some (.b false, [])) else (lab (todoAt (Γ mx) 45 16) ⟨[(0, .s s1), (3, .i .i64 n2), (5, .i .i64 4), (6, .i .i64 (IntKind.wrap .i64 ((IntKind.wrap .i64 ((c3.toNat : Int))) - 240))), (7, .i .i64 65536), (8, .i .i64 1)], []⟩))) else (some (.b false, []))) else (some (.b false, [])))))) else (some (.b true, [])) := by kernel_rfl
theorem r55_16a (call : Handle) (lab : Lab) (s1 : List UInt8) (n2 : Int) (n3 : Int) (n4 : Int) (n5 : Int) (n6 : Int) : evL (Γ mx) call lab 45 16 ⟨[(0, .s s1), (3, .i .i64 n2), (5, .i .i64 n3), (6, .i .i64 n4), (7, .i .i64 n5), (8, .i .i64 n6)], []⟩ =
  bif decide (n6 < n3) then (bif decide ((IntKind.wrap .i64 (n2 + n6)) ≥ ((List.length s1 : Int))) then (some (.b false, [])) else (idx s1 (IntKind.wrap .i64 (n2 + n6)) fun c7 => bif decide (((c7.toNat : Int)) < 128) then (some (.b false, [])) else (idx s1 (IntKind.wrap .i64 (n2 + n6)) fun c8 => bif decide (((c8.toNat : Int)) ≥ 192) then (some (.b false, [])) else (idx s1 (IntKind.wrap .i64 (n2 + n6)) fun c9 => lab (todoAt (Γ mx) 45 16) ⟨[(0, .s s1), (3, .i .i64 n2), (5, .i .i64 n3), (6, .i .i64 (IntKind.wrap .i64 ((IntKind.wrap .i64 ((IntKind.wrap .i64 (n4 * 64)) + (IntKind.wrap .i64 ((c9.toNat : Int))))) - 128))), (7, .i .i64 n5), (8, .i .i64 (IntKind.wrap .i64 (n6 + 1)))], []⟩)))) else (bif decide (n4 < n5) then (some (.b false, [])) else (bif decide (n4 > 1114111) then (some (.b false, [])) else (bif decide (n4 ≥ 55296) then (bif decide (n4 ≤ 57343) then (some (.b false, [])) else (lab (todoAt (Γ mx) 45 2) ⟨[(0, .s s1), (3, .i .i64 (IntKind.wrap .i64 (n2 + n3)))], []⟩)) else (lab (todoAt (Γ mx) 45 2) ⟨[(0, .s s1), (3, .i .i64 (IntKind.wrap .i64 (n2 + n3)))], []⟩)))) := by kernel_rfl
end Go.Proofs.Ytapaenfafjmljaa.V

/- Clean texts: what the machine over values comes to at label.Clean, ref.Clean. -/
namespace Go.Proofs.Ytapaenfafjmljaa.V
open Go
set_option maxRecDepth 100000
set_option linter.unusedVariables false
set_option linter.unusedSimpArgs false
variable {mx : Int}
/-! ### label.Clean -/
/-! ### ref.Clean -/
def innB (least : Nat) (B : Bool) : Option Nat → Bool
  | none => false
  | some y => if fineX least y = true then B else false
theorem inn_goes (call : Handle) (s pre : List UInt8) (n least : Nat) (B : Bool) (hs : s.length ≤ 1099511627776) (hn : n ≤ 4) (hl : least ≤ 65536) :
    ∀ (m x : Nat) (q r : List UInt8), s = pre ++ (q ++ r) → q.length + m = n → (x + 2) * 64 ^ m ≤ 1099511627776 →
    (∀ y, inn m x (r) = some y → fineX least y = true → Goes (Γ mx) call 45 2 ⟨[(0, .s s), (3, .i .i64 (IntKind.wrap .i64 ((pre.length : Int) + (n : Int))))], []⟩ (.b B, [])) →
    Goes (Γ mx) call 45 16 ⟨[(0, .s s), (3, .i .i64 (pre.length : Int)), (5, .i .i64 (n : Int)), (6, .i .i64 (x : Int)), (7, .i .i64 (least : Int)), (8, .i .i64 (q.length : Int))], []⟩ (.b (innB least B (inn m x r)), [])
  | 0, x, q, r, he, hq, hx, hB => by
    have d0 : decide ((q.length : Int) < (n : Int)) = false := decide_eq_false (by omega)
    simp only [inn, innB]
    by_cases h1 : x < least
    · refine Goes.step ⟨0, ?_⟩
      rw [r55_16a, d0]
      have : fineX least x = false := by simp [fineX] <;> omega
      rw [decide_eq_true (show (x : Int) < (least : Int) by omega), this]; rfl
    · by_cases h2 : x > 1114111
      · refine Goes.step ⟨0, ?_⟩
        rw [r55_16a, d0]
        have : fineX least x = false := by simp [fineX] <;> omega
        rw [decide_eq_false (show ¬ (x : Int) < (least : Int) by omega), decide_eq_true (show (x : Int) > 1114111 by omega), this]; rfl
      · by_cases h3 : x ≥ 55296
        · by_cases h4 : x ≤ 57343
          · refine Goes.step ⟨0, ?_⟩
            rw [r55_16a, d0]
            have : fineX least x = false := by simp [fineX] <;> omega
            rw [decide_eq_false (show ¬ (x : Int) < (least : Int) by omega), decide_eq_false (show ¬ (x : Int) > 1114111 by omega), decide_eq_true (show (x : Int) ≥ 55296 by omega), decide_eq_true (show (x : Int) ≤ 57343 by omega), this]; rfl
          · have hf : fineX least x = true := by simp [fineX] <;> omega
            obtain ⟨k, hk⟩ := hB x rfl hf
            refine Goes.step ⟨k, ?_⟩
            rw [r55_16a, d0]
            rw [decide_eq_false (show ¬ (x : Int) < (least : Int) by omega), decide_eq_false (show ¬ (x : Int) > 1114111 by omega), decide_eq_true (show (x : Int) ≥ 55296 by omega), decide_eq_false (show ¬ (x : Int) ≤ 57343 by omega), if_pos hf]
            exact hk
        · have hf : fineX least x = true := by simp [fineX] <;> omega
          obtain ⟨k, hk⟩ := hB x rfl hf
          refine Goes.step ⟨k, ?_⟩
          rw [r55_16a, d0]
          rw [decide_eq_false (show ¬ (x : Int) < (least : Int) by omega), decide_eq_false (show ¬ (x : Int) > 1114111 by omega), decide_eq_false (show ¬ (x : Int) ≥ 55296 by omega), if_pos hf]
          exact hk
  | m + 1, x, q, [], he, hq, hx, hB => by
    have hsl : s.length = pre.length + q.length := by rw [he]; simp
    refine Goes.step ⟨0, ?_⟩
    rw [r55_16a, wrapI (n := (pre.length : Int) + (q.length : Int)) (by omega) (by omega)]
    rw [decide_eq_true (show (q.length : Int) < (n : Int) by omega), decide_eq_true (show (pre.length : Int) + (q.length : Int) ≥ (s.length : Int) by omega)]
    rfl
  | m + 1, x, q, b :: r, he, hq, hx, hB => by
    have hsl : s.length = pre.length + q.length + (r.length + 1) := by rw [he]; simp <;> omega
    have hb := b.toNat_lt
    have hpow : (x + 2) * 64 ^ (m + 1) = (x + 2) * 64 * 64 ^ m := by rw [Nat.pow_succ, Nat.mul_comm (64 ^ m) 64, Nat.mul_assoc]
    have hp1 : 1 ≤ 64 ^ m := Nat.pow_pos (by decide)
    have hx1 : (x + 2) * 64 ≤ 1099511627776 := Nat.le_trans (Nat.le_mul_of_pos_right _ hp1) (by rw [← hpow]; exact hx)
    have hwi : IntKind.wrap .i64 ((pre.length : Int) + (q.length : Int)) = ((pre ++ q).length : Int) := by rw [wrapI (by omega) (by omega)]; simp
    have hid : ∀ {R : Type} (K : UInt8 → Option R), idx s ((pre ++ q).length : Int) K = K b := fun K => by rw [he, ← List.append_assoc]; exact idx_mid _ _ _ K
    have d0 : decide ((q.length : Int) < (n : Int)) = true := decide_eq_true (by omega)
    have d1 : decide (((pre ++ q).length : Int) ≥ (s.length : Int)) = false := decide_eq_false (by simp <;> omega)
    by_cases hk1 : 128 ≤ b.toNat ∧ b.toNat < 192
    · have e1 : decide ((b.toNat : Int) < 128) = false := decide_eq_false (by omega)
      have e2 : decide ((b.toNat : Int) ≥ 192) = false := decide_eq_false (by omega)
      obtain ⟨k, hk⟩ := inn_goes call s pre n least B hs hn hl m (x * 64 + b.toNat - 128) (q ++ [b]) r (by rw [he]; simp) (by simp <;> omega)
        (Nat.le_trans (Nat.mul_le_mul_right _ (show x * 64 + b.toNat - 128 + 2 ≤ (x + 2) * 64 by omega)) (by rw [← hpow]; exact hx))
        (fun y hy hf => hB y (by rw [inn, if_pos hk1]; exact hy) hf)
      refine Goes.step ⟨k, ?_⟩
      have hw1 : IntKind.wrap .i64 ((x : Int) * 64) = (x : Int) * 64 := wrapI (by omega) (by omega)
      have hw2 : IntKind.wrap .i64 ((b.toNat : Int)) = (b.toNat : Int) := wrapI (by omega) (by omega)
      have hw3 : IntKind.wrap .i64 ((x : Int) * 64 + (b.toNat : Int)) = (x : Int) * 64 + (b.toNat : Int) := wrapI (by omega) (by omega)
      have hw4 : IntKind.wrap .i64 ((x : Int) * 64 + (b.toNat : Int) - 128) = ((x * 64 + b.toNat - 128 : Nat) : Int) := by rw [wrapI (by omega) (by omega)]; omega
      have hw5 : IntKind.wrap .i64 ((q.length : Int) + 1) = ((q ++ [b]).length : Int) := by rw [wrapI (by omega) (by omega)]; simp
      rw [r55_16a]
      simp only [d0, cond_true, hwi, d1, cond_false, hid, e1, e2, hw1, hw2, hw3, hw4, hw5]
      rw [hk, inn, if_pos hk1]
    · refine Goes.step ⟨0, ?_⟩
      rw [r55_16a]
      simp only [d0, cond_true, hwi, d1, cond_false, hid, inn, if_neg hk1, innB]
      by_cases e1 : (b.toNat : Int) < 128
      · rw [decide_eq_true e1]; rfl
      · rw [decide_eq_false e1, decide_eq_true (show (b.toNat : Int) ≥ 192 by omega)]; rfl
theorem refClean_goes (call : Handle) (s : List UInt8) (hs : s.length ≤ 1073741824) : ∀ (f : Nat) (rest pre : List UInt8) (i : Int), rest.length ≤ f → s = pre ++ rest → i = (pre.length : Int) →
    Goes (Γ mx) call 45 2 ⟨[(0, .s s), (3, .i .i64 i)], []⟩ (.b (cleanGo f rest), [])
  | f, [], pre, i, hf, he, hi => by
    subst hi
    refine Goes.step ⟨0, ?_⟩
    rw [r55_2a]
    have d1 : decide ((pre.length : Int) < (s.length : Int)) = false := decide_eq_false (by rw [he]; simp)
    have : cleanGo f [] = true := by cases f <;> rfl
    rw [d1, this]; rfl
  | 0, c :: r, pre, i, hf, he, hi => absurd hf (by simp)
  | f + 1, c :: r, pre, i, hf, he, hi => by
    subst hi
    have hsl : s.length = pre.length + (r.length + 1) := by rw [he]; simp
    have hcl := c.toNat_lt
    have d1 : decide ((pre.length : Int) < (s.length : Int)) = true := decide_eq_true (by omega)
    have hid : ∀ {R : Type} (K : UInt8 → Option R), idx s (pre.length : Int) K = K c := fun K => by rw [he]; exact idx_mid _ _ _ K
    have hwc : IntKind.wrap .i64 ((c.toNat : Int)) = (c.toNat : Int) := wrapI (by omega) (by omega)
    have go : ∀ (m x least : Nat), m ≤ 3 → x ≤ 256 → least ≤ 65536 → lead c = some (m, x, least) → cleanB c = true →
        Goes (Γ mx) call 45 16 ⟨[(0, .s s), (3, .i .i64 (pre.length : Int)), (5, .i .i64 ((m + 1 : Nat) : Int)), (6, .i .i64 (x : Int)), (7, .i .i64 (least : Int)), (8, .i .i64 1)], []⟩ (.b (cleanGo (f + 1) (c :: r)), []) := fun m x least hm hx hl hld hcb => by
      have hB : innB least (cleanGo f (r.drop m)) (inn m x r) = cleanGo (f + 1) (c :: r) := by
        simp only [cleanGo, hld, hcb, innB]
        cases inn m x r <;> simp
      rw [← hB]
      refine inn_goes call s pre (m + 1) least _ (by omega) (by omega) hl m x [c] r (by rw [he]; simp) (by simp <;> omega) ?_ fun y hy hfine => ?_
      · refine Nat.le_trans (Nat.mul_le_mul (show x + 2 ≤ 258 by omega) (Nat.pow_le_pow_right (by omega) hm)) (by decide)
      · have hlen : ∀ (m x : Nat) (r : List UInt8) (y : Nat), inn m x r = some y → m ≤ r.length := fun m => by
          induction m with
          | zero => intro x r y h; omega
          | succ m ih =>
            intro x r y h
            cases r with
            | nil => simp [inn] at h
            | cons b r =>
              rw [inn] at h
              split at h
              · have := ih _ _ _ h; simp <;> omega
              · exact absurd h (by simp)
        have hml := hlen m x r y hy
        have hw : IntKind.wrap .i64 ((pre.length : Int) + ((m + 1 : Nat) : Int)) = ((pre ++ c :: r.take m).length : Int) := by
          rw [wrapI (by omega) (by omega)]; simp only [List.length_append, List.length_cons, List.length_take]; omega
        rw [hw]
        exact refClean_goes call s hs f (r.drop m) (pre ++ c :: r.take m) _ (by simp at hf ⊢; omega) (by rw [he]; simp) rfl
    by_cases h1 : c.toNat < 128
    · have hld : lead c = some (0, c.toNat, 0) := by simp [lead, h1]
      by_cases hcb : cleanB c = true
      · obtain ⟨k, hk⟩ := go 0 c.toNat 0 (by omega) (by omega) (by omega) hld hcb
        refine Goes.step ⟨k, ?_⟩
        simp only [cleanB, Bool.and_eq_true, decide_eq_true_eq] at hcb
        have e : ((c.toNat : Int) == 127) = false := by simp <;> omega
        rw [r55_2a]
        simp only [d1, cond_true, hid, hwc, decide_eq_true (show (c.toNat : Int) < 128 by omega), decide_eq_false (show ¬ (c.toNat : Int) < 32 by omega), e, cond_false]
        exact hk
      · have hcb' : cleanB c = false := Bool.eq_false_iff.2 hcb
        refine Goes.step ⟨0, ?_⟩
        rw [r55_2a]
        simp only [d1, cond_true, hid, hwc, decide_eq_true (show (c.toNat : Int) < 128 by omega), cleanGo, hld, hcb', if_true]
        by_cases e1 : (c.toNat : Int) < 32
        · rw [decide_eq_true e1]; rfl
        · rw [decide_eq_false e1]
          have : c.toNat = 127 := by
            simp only [cleanB, Bool.and_eq_true, decide_eq_true_eq] at hcb
            omega
          have e : ((c.toNat : Int) == 127) = true := by rw [this]; rfl
          rw [e]; rfl
    · have hcb : cleanB c = true := by simp [cleanB] <;> omega
      have e32 : decide ((c.toNat : Int) < 32) = false := decide_eq_false (by omega)
      have e127 : ((c.toNat : Int) == 127) = false := by simp <;> omega
      have e128 : decide ((c.toNat : Int) < 128) = false := decide_eq_false (by omega)
      by_cases h2 : 192 ≤ c.toNat ∧ c.toNat < 224
      · have hld : lead c = some (1, c.toNat - 192, 128) := by simp only [lead, if_neg h1, if_pos h2]
        obtain ⟨k, hk⟩ := go 1 (c.toNat - 192) 128 (by omega) (by omega) (by omega) hld hcb
        refine Goes.step ⟨k, ?_⟩
        have hw : IntKind.wrap .i64 ((c.toNat : Int) - 192) = ((c.toNat - 192 : Nat) : Int) := by rw [wrapI (by omega) (by omega)]; omega
        rw [r55_2a]
        simp only [d1, cond_true, hid, hwc, e128, cond_false, decide_eq_true (show (c.toNat : Int) ≥ 192 by omega), decide_eq_true (show (c.toNat : Int) < 224 by omega), e32, e127, hw]
        exact hk
      · by_cases h3 : 224 ≤ c.toNat ∧ c.toNat < 240
        · have hld : lead c = some (2, c.toNat - 224, 2048) := by simp only [lead, if_neg h1, if_neg h2, if_pos h3]
          obtain ⟨k, hk⟩ := go 2 (c.toNat - 224) 2048 (by omega) (by omega) (by omega) hld hcb
          refine Goes.step ⟨k, ?_⟩
          have hw : IntKind.wrap .i64 ((c.toNat : Int) - 224) = ((c.toNat - 224 : Nat) : Int) := by rw [wrapI (by omega) (by omega)]; omega
          rw [r55_2a]
          simp only [d1, cond_true, hid, hwc, e128, cond_false, decide_eq_true (show (c.toNat : Int) ≥ 192 by omega), decide_eq_false (show ¬ (c.toNat : Int) < 224 by omega), decide_eq_true (show (c.toNat : Int) ≥ 224 by omega), decide_eq_true (show (c.toNat : Int) < 240 by omega), e32, e127, hw]
          exact hk
        · by_cases h4 : 240 ≤ c.toNat ∧ c.toNat < 248
          · have hld : lead c = some (3, c.toNat - 240, 65536) := by simp only [lead, if_neg h1, if_neg h2, if_neg h3, if_pos h4]
            obtain ⟨k, hk⟩ := go 3 (c.toNat - 240) 65536 (by omega) (by omega) (by omega) hld hcb
            refine Goes.step ⟨k, ?_⟩
            have hw : IntKind.wrap .i64 ((c.toNat : Int) - 240) = ((c.toNat - 240 : Nat) : Int) := by rw [wrapI (by omega) (by omega)]; omega
            rw [r55_2a]
            simp only [d1, cond_true, hid, hwc, e128, cond_false, decide_eq_true (show (c.toNat : Int) ≥ 192 by omega), decide_eq_false (show ¬ (c.toNat : Int) < 224 by omega), decide_eq_true (show (c.toNat : Int) ≥ 224 by omega), decide_eq_false (show ¬ (c.toNat : Int) < 240 by omega), decide_eq_true (show (c.toNat : Int) ≥ 240 by omega), decide_eq_true (show (c.toNat : Int) < 248 by omega), e32, e127, hw]
            exact hk
          · have hld : lead c = none := by simp only [lead, if_neg h1, if_neg h2, if_neg h3, if_neg h4]
            refine Goes.step ⟨0, ?_⟩
            rw [r55_2a]
            simp only [d1, cond_true, hid, hwc, e128, cond_false, cleanGo, hld]
            by_cases g1 : (c.toNat : Int) ≥ 192
            · rw [decide_eq_true g1, decide_eq_false (show ¬ (c.toNat : Int) < 224 by omega), decide_eq_true (show (c.toNat : Int) ≥ 224 by omega), decide_eq_false (show ¬ (c.toNat : Int) < 240 by omega), decide_eq_true (show (c.toNat : Int) ≥ 240 by omega), decide_eq_false (show ¬ (c.toNat : Int) < 248 by omega)]; rfl
            · rw [decide_eq_false g1, decide_eq_false (show ¬ (c.toNat : Int) ≥ 224 by omega), decide_eq_false (show ¬ (c.toNat : Int) ≥ 240 by omega)]; rfl
theorem refClean_ret {call : Handle} (hc : CallsOK (Γ mx) call) (s : List UInt8) (hs : s.length ≤ 1073741824) : RetX (Γ mx) 45 [.s s] [] (.b (cleanV s)) [] := by
  obtain ⟨k, hk⟩ := refClean_goes call s hs s.length s [] 0 (Nat.le_refl _) rfl rfl
  refine ret_goes hP hZ hc (by kernel_rfl) ⟨k, ?_⟩
  rw [r55]
  have e : cleanV s = cleanGo s.length s := (clean_valid s.length s (Nat.le_refl _)).symm
  rw [e]
  exact hk
end Go.Proofs.Ytapaenfafjmljaa.V

/- Tags: what the machine over values makes of the functions: equations, written by program. -/
namespace Go.Proofs.Ytapaenfafjmljaa.V
open Go
set_option maxRecDepth 100000
set_option linter.unusedVariables false
set_option linter.unusedSimpArgs false
def cmpZ (p q : List UInt8) : Int := bif lessB p q then -1 else bif !(lessB p q || p == q) then 1 else 0
def ordZ (a b : D) : Int := cmpZ (nmT a) (nmT b)
def sameT (a b : List D) : Bool := (a.map fun t => (nmT t, vlT t)) == (b.map fun t => (nmT t, vlT t))
def srtC (l : List D) : Bool := decide (l.length ≤ 8) && l.all isT
def lenC (n : Int) : Bool := decide (0 ≤ n) && decide (n ≤ 8)
def blen (n : Int) : Int := bif n == 0 then 0 else bif n == 1 then 1 else bif decide (n ≤ 3) then 2 else bif decide (n ≤ 7) then 3 else 4
def tcA (s : List UInt8) : List UInt8 := (Lib.cut s [61]).1
def tcB (s : List UInt8) : List UInt8 := (Lib.cut s [61]).2.1
def tcF (s : List UInt8) : Bool := (Lib.cut s [61]).2.2
def spLen : List AV → Option (Bool × AV)
  | [.i .u64 n] => some (lenC n, .i .i64 (blen n))
  | _ => none
def spLL (u v : TypeId) (c : List D → List D → Bool) (f : List D → List D → AV) : List AV → Option (Bool × AV)
  | [.sl t _ x, .sl s _ y] => some (Nat.beq t u && (Nat.beq s v && c x y), f x y)
  | _ => none
def spCut : List AV → Option (Bool × AV)
  | [.s s, .s [61]] => some (s32 s, .tuple [.s (tcA s), .s (tcB s), .b (tcF s)])
  | _ => none
def spJ2 : List AV → Option (Bool × AV)
  | [.snil, .s p] => some (joinC [] p, .s (joinV [] p))
  | [.sl 9 _ l, .s p] => some (joinC l p, .s (joinV l p))
  | _ => none
def spSp38 : List AV → Option (Bool × AV)
  | [.s s, .s [38]] => some (s32 s, .sl 9 .ex (splitC 38 s))
  | _ => none
def spL1s (u : TypeId) (c : List D → Bool) (f : List D → AV) : List AV → Option (Bool × AV)
  | [.snil] => some (c [], f [])
  | [.sl t _ l] => some (Nat.beq t u && c l, f l)
  | _ => none
def xClone : List AV → Objs → Option (Bool × AV × Objs)
  | [.sl t _ []], [] => some (Nat.beq t 82, .sl 82 .cl [], [])
  | [.sl t _ (x :: r)], [] => some (Nat.beq t 82 && tC (x :: r), .ref 82 0, [some (.arr 82 (x :: r) false)])
  | _, _ => none
variable {mx : Int}
def H27 : Handle := runS [⟨45, dat (sp1 short fun p => .b (cleanV p))⟩]
theorem r27 (lab : Lab) (l : List D) : evF (Γ mx) H27 lab 46 [.sl 82 .any l] [] =
  bif decide (((l.length : Int)) > 8) then (some (.b false, [])) else (lab (todoAt (Γ mx) 46 4) ⟨[(0, .sl 82 .any l), (3, .i .i64 0)], []⟩) := by kernel_rfl
theorem r27_4a (lab : Lab) (l1 : List D) (n2 : Int) : evL (Γ mx) H27 lab 46 4 ⟨[(0, .sl 82 .any l1), (3, .i .i64 n2)], []⟩ =
  bif decide (n2 < ((l1.length : Int))) then (idx l1 n2 fun y3 => dAgg y3 fun y4 => lGet y4 0 fun y5 => dStr y5 fun s6 => bif decide (((List.length s6 : Int)) < 1) then (some (.b false, [])) else (idx l1 n2 fun y7 => dAgg y7 fun y8 => lGet y8 0 fun y9 => dStr y9 fun s10 => bif decide (((List.length s10 : Int)) > 64) then (some (.b false, [])) else (idx l1 n2 fun y11 => dAgg y11 fun y12 => lGet y12 1 fun y13 => dStr y13 fun s14 => bif decide (((List.length s14 : Int)) > 64) then (some (.b false, [])) else (idx l1 n2 fun y15 => dAgg y15 fun y16 => lGet y16 0 fun y17 => dStr y17 fun s18 => bif short s18 then (bif !(cleanV s18) then (some (.b false, [])) else (idx l1 n2 fun y19 => dAgg y19 fun y20 => lGet y20 1 fun y21 => dStr y21 fun s22 => bif short s22 then (bif !(cleanV s22) then (some (.b false, [])) else (bif decide (n2 > 0) then (idx l1 n2 fun y23 => dAgg y23 fun y24 => lGet y24 0 fun y25 => dStr y25 fun s26 => idx l1 (IntKind.wrap .i64 (n2 - 1)) fun y27 => dAgg y27 fun y28 => lGet y28 0 fun y29 => dStr y29 fun s30 => bif lessB s26 s30 || s26 == s30 then (some (.b false, [])) else (lab (todoAt (Γ mx) 46 4) ⟨[(0, .sl 82 .any l1), (3, .i .i64 (IntKind.wrap .i64 (n2 + 1)))], []⟩)) else (lab (todoAt (Γ mx) 46 4) ⟨[(0, .sl 82 .any l1), (3, .i .i64 (IntKind.wrap .i64 (n2 + 1)))], []⟩))) else none)) else none)))) else (some (.b true, [])) := by kernel_rfl
theorem r29 (call : Handle) (lab : Lab) (l : List D) (n : List UInt8) : evF (Γ mx) call lab 54 [.sl 82 .any l, .s n] [] =
  lab (todoAt (Γ mx) 54 2) ⟨[(1, .s n), (8, .sl 82 .any l), (9, .i .i64 ((l.length : Int))), (10, .i .i64 0)], []⟩ := by kernel_rfl
theorem r29_2a (call : Handle) (lab : Lab) (s1 : List UInt8) (l2 : List D) (n3 : Int) (n4 : Int) : evL (Γ mx) call lab 54 2 ⟨[(1, .s s1), (8, .sl 82 .any l2), (9, .i .i64 n3), (10, .i .i64 n4)], []⟩ =
  bif decide (n4 < n3) then (idx l2 n4 fun y5 => dAgg y5 fun y6 => lCons y6 fun a7 r8 => dStr a7 fun s9 => lCons r8 fun a10 r11 => dStr a10 fun s12 => lNil r11 (bif s9 == s1 then (some (.tuple [.s s12, .b true], [])) else (lab (todoAt (Γ mx) 54 2) ⟨[(1, .s s1), (8, .sl 82 .any l2), (9, .i .i64 n3), (10, .i .i64 (IntKind.wrap .i64 (n4 + 1)))], []⟩))) else (some (.tuple [.s ([] : List UInt8), .b false], [])) := by kernel_rfl
def H30 : Handle := runS [⟨54, dat (spLS 82 (fun l _ => tC l) fun l n => .tuple [.s (getS l n), .b (getB l n)])⟩]
theorem r30 (lab : Lab) (a : List D) (b : List D) : evF (Γ mx) H30 lab 42 [.sl 82 .any a, .sl 82 .any b] [] =
  lab (todoAt (Γ mx) 42 2) ⟨[(1, .sl 82 .any b), (9, .sl 82 .any a), (10, .i .i64 ((a.length : Int))), (11, .i .i64 0)], []⟩ := by kernel_rfl
theorem r30_2a (lab : Lab) (l1 : List D) (l2 : List D) (n3 : Int) (n4 : Int) : evL (Γ mx) H30 lab 42 2 ⟨[(1, .sl 82 .any l1), (9, .sl 82 .any l2), (10, .i .i64 n3), (11, .i .i64 n4)], []⟩ =
  bif decide (n4 < n3) then (idx l2 n4 fun y5 => dAgg y5 fun y6 => lCons y6 fun a7 r8 => dStr a7 fun s9 => lCons r8 fun a10 r11 => dStr a10 fun s12 => lNil r11 (bif tC l1 then (bif !(getB l1 s9) then (some (.b false, [])) else (bif !((getS l1 s9) == s12) then (some (.b false, [])) else (lab (todoAt (Γ mx) 42 2) ⟨[(1, .sl 82 .any l1), (9, .sl 82 .any l2), (10, .i .i64 n3), (11, .i .i64 (IntKind.wrap .i64 (n4 + 1)))], []⟩))) else none)) else (some (.b true, [])) := by kernel_rfl
theorem r25 (call : Handle) (lab : Lab) (a : List D) (b : List D) : evF (Γ mx) call lab 41 [.sl 82 .any a, .sl 82 .any b] [] =
  bif ((a.length : Int)) != ((b.length : Int)) then (some (.b false, [])) else (lab (todoAt (Γ mx) 41 4) ⟨[(0, .sl 82 .any a), (1, .sl 82 .any b), (5, .i .i64 0)], []⟩) := by kernel_rfl
theorem r25_4a (call : Handle) (lab : Lab) (l1 : List D) (l2 : List D) (n3 : Int) : evL (Γ mx) call lab 41 4 ⟨[(0, .sl 82 .any l1), (1, .sl 82 .any l2), (5, .i .i64 n3)], []⟩ =
  bif decide (n3 < ((l1.length : Int))) then (idx l1 n3 fun y4 => dAgg y4 fun y5 => lGet y5 0 fun y6 => dStr y6 fun s7 => idx l2 n3 fun y8 => dAgg y8 fun y9 => lGet y9 0 fun y10 => dStr y10 fun s11 => bif !(s7 == s11) then (some (.b false, [])) else (idx l1 n3 fun y12 => dAgg y12 fun y13 => lGet y13 1 fun y14 => dStr y14 fun s15 => idx l2 n3 fun y16 => dAgg y16 fun y17 => lGet y17 1 fun y18 => dStr y18 fun s19 => bif !(s15 == s19) then (some (.b false, [])) else (lab (todoAt (Γ mx) 41 4) ⟨[(0, .sl 82 .any l1), (1, .sl 82 .any l2), (5, .i .i64 (IntKind.wrap .i64 (n3 + 1)))], []⟩))) else (some (.b true, [])) := by kernel_rfl
theorem r50 (call : Handle) (lab : Lab) (x : D) (r : List D) : evF (Γ mx) call lab 58 [.sl 82 .any ((x :: r))] [] =
  bif roomB (0 + ((x :: r)).length) 32 then (some (.ref 82 0, [some (.arr 82 ((x :: r)) false)])) else none := by kernel_rfl
theorem r53 (call : Handle) (lab : Lab) (l : List D) : evF (Γ mx) call lab 57 [.sl 82 .any l] [] =
  bif decide ((0:Int) ≤ ((l.length : Int))) && decide (((l.length : Int)) ≤ (l.length : Int)) then (bif decide ((0:Int) ≤ ((l.length : Int))) && decide (((l.length : Int)) ≤ (Int.toNat ((l.length : Int)) : Int)) then (bif Nat.beq (Int.toNat ((l.length : Int))) (Int.toNat ((l.length : Int))) then (some (.sl 82 .cl (List.take ((Int.toNat ((l.length : Int))) - 0) (List.drop 0 l)), [])) else none) else none) else none := by kernel_rfl
theorem nlr50 (call : Handle) (lab : Lab) : evF (Γ mx) call lab 58 [.sl 82 .nl []] [] =
  some (.snil, []) := by kernel_rfl
theorem nnr50 (call : Handle) (lab : Lab) : evF (Γ mx) call lab 58 [.sl 82 .nn []] [] =
  some (.sl 82 .ex [], []) := by kernel_rfl
end Go.Proofs.Ytapaenfafjmljaa.V

/- Tags: what the machine over values makes of the functions, part two: equations, written by program. -/
namespace Go.Proofs.Ytapaenfafjmljaa.V
open Go
set_option maxRecDepth 100000
set_option linter.unusedVariables false
set_option linter.unusedSimpArgs false
variable {mx : Int}
def H23 : Handle := runS [⟨46, dat (spL1s 82 tC fun l => .b (tsB l))⟩]
end Go.Proofs.Ytapaenfafjmljaa.V

/- Tags: contracts: compare, sort, clone, clip, sound, get, within, same. -/
namespace Go.Proofs.Ytapaenfafjmljaa.V
open Go
set_option maxRecDepth 100000
set_option linter.unusedVariables false
set_option linter.unusedSimpArgs false
section
variable {Γ : Ctx} {g : FuncId}
theorem RetX.args {args args' : List AV} {obs obs' : Objs} {r : AV} (h : RetX Γ g args obs r obs') (k : WkL Γ.P args' args) : RetX Γ g args' obs r obs' := fun w S σ X vals h0 h1 h2 => h w S σ X vals h0 h1 (k.rep h2)
theorem spL1s_ok {u : TypeId} {c : List D → Bool} {f : List D → AV} (h : ∀ l, c l = true → RetX Γ g [.sl u .any l] [] (f l) []) : SpecOK Γ ⟨g, dat (spL1s u c f)⟩ := dat_ok fun args r hr => by
  unfold spL1s at hr
  split at hr
  · simp only [Option.some.injEq, Prod.mk.injEq] at hr
    obtain ⟨h1, rfl⟩ := hr
    exact (h _ h1).args (.cons (WkA.nil u) .nil)
  · simp only [Option.some.injEq, Prod.mk.injEq, Bool.and_eq_true] at hr
    obtain ⟨⟨h1, h2⟩, rfl⟩ := hr
    obtain rfl := beq_id h1
    exact (h _ h2).anyc
  · exact absurd hr (by simp)
theorem spLL_ok {u v : TypeId} {c : List D → List D → Bool} {f : List D → List D → AV} (h : ∀ x y, c x y = true → RetX Γ g [.sl u .any x, .sl v .any y] [] (f x y) []) : SpecOK Γ ⟨g, dat (spLL u v c f)⟩ := dat_ok fun args r hr => by
  unfold spLL at hr
  split at hr
  · simp only [Option.some.injEq, Prod.mk.injEq, Bool.and_eq_true] at hr
    obtain ⟨⟨h1, h2, h3⟩, rfl⟩ := hr
    obtain rfl := beq_id h1
    obtain rfl := beq_id h2
    exact (h _ _ h3).args (.cons (WkA.sl _ _ _) (.cons (WkA.sl _ _ _) .nil))
  · exact absurd hr (by simp)
end
variable {mx : Int}
theorem tC_eq {l : List D} (h : tC l = true) : l.length ≤ 8388608 ∧ l.all shT = true := by simpa [tC] using h
theorem shT_is {d : D} (h : shT d = true) : isT d = true := by unfold shT at h; simp only [Bool.and_eq_true] at h; exact h.1
theorem shT_ex {d : D} (h : shT d = true) : ∃ a b, d = .agg [.str a, .str b] ∧ short a = true ∧ short b = true := by
  obtain ⟨a, b, rfl⟩ := isT_ex (shT_is h)
  unfold shT at h
  simp only [Bool.and_eq_true] at h
  exact ⟨a, b, rfl, h.2.1, h.2.2⟩
theorem sh_all {l : List D} (h : l.all shT = true) : l.all isT = true := List.all_eq_true.2 fun d hd => shT_is (List.all_eq_true.1 h d hd)
theorem ord_lt (a b : D) : decide (ordZ a b < 0) = ltT a b := by
  unfold ordZ cmpZ ltT
  cases lessB (nmT a) (nmT b) with
  | true => rfl
  | false =>
    rw [cond_false]
    cases (nmT a == nmT b) <;> rfl
theorem c55 (p : List UInt8) (h : short p = true) : RetX (Γ mx) 45 [.s p] [] (.b (cleanV p)) [] := refClean_ret none_ok p (by have := short_le h; omega)
theorem i64_le (n : Nat) (k : Nat) : decide ((n : Int) ≤ (k : Int)) = decide (n ≤ k) := decide_eq_decide.2 (by omega)
/-! ### sound -/
def lastO : List D → Option D
  | [] => none
  | d :: r => match lastO r with | some x => some x | none => some d
theorem lastO_app (p : List D) (x : D) : lastO (p ++ [x]) = some x := by
  induction p with
  | nil => rfl
  | cons d p ih => rw [List.cons_append, lastO, ih]
theorem lastO_nil {p : List D} (h : lastO p = none) : p = [] := by
  cases p with
  | nil => rfl
  | cons d p => rw [lastO] at h; split at h <;> exact absurd h (by simp)
theorem lastO_some {p : List D} {x : D} (h : lastO p = some x) : ∃ q, p = q ++ [x] := by
  induction p with
  | nil => exact absurd h (by simp [lastO])
  | cons d p ih =>
    rw [lastO] at h
    split at h
    · rename_i y hy
      cases h
      obtain ⟨q, rfl⟩ := ih hy
      exact ⟨d :: q, rfl⟩
    · rename_i hn
      cases h
      rw [lastO_nil hn]
      exact ⟨[], rfl⟩
theorem snd1_cons (o : Option D) (t : D) (r : List D) : snd1 o (t :: r) = (goodT t && ((match o with | none => true | some p => lessB (nmT p) (nmT t)) && snd1 (some t) r)) := by
  cases o with
  | none => rw [snd1]; simp
  | some p => rw [snd1, Bool.and_assoc]
theorem h27_ok : CallsOK (Γ mx) H27 := specs_ok (.cons (sp1_ok c55) .nil)
theorem le_less (a b : List UInt8) : (lessB a b || a == b) = !lessB b a := by
  cases h1 : lessB a b with
  | true => rw [lessB_asymm h1]; rfl
  | false =>
    cases h2 : lessB b a with
    | true =>
      have : (a == b) = false := beq_eq_false_iff_ne.2 fun e => by rw [e, lessB_irrefl] at h2; exact absurd h2 (by simp)
      rw [this]; rfl
    | false => rw [lessB_tri h1 h2]; simp
theorem i64_lt1 (a : List UInt8) : decide ((a.length : Int) < 1) = (a == []) := by
  cases a with
  | nil => rfl
  | cons c r => rw [decide_eq_false (by simp only [List.length_cons]; omega)]; rfl
theorem i64_gt (n k : Nat) : decide ((n : Int) > (k : Int)) = !decide (n ≤ k) := by
  by_cases h : n ≤ k
  · rw [decide_eq_true h, decide_eq_false (by omega)]; rfl
  · rw [decide_eq_false h, decide_eq_true (by omega)]; rfl
theorem g27 (l : List D) (hl : l.length ≤ 8) (ha : l.all shT = true) : ∀ (rest pre : List D) (i : Int), l = pre ++ rest → i = (pre.length : Int) →
    Goes (Γ mx) H27 46 4 ⟨[(0, .sl 82 .any l), (3, .i .i64 i)], []⟩ (.b (snd1 (lastO pre) rest), [])
  | [], pre, i, he, hi => by
    subst hi
    refine Goes.step ⟨0, ?_⟩
    rw [r27_4a, decide_eq_false (show ¬ (pre.length : Int) < (l.length : Int) by rw [he]; simp)]
    cases lastO pre <;> rfl
  | t :: r, pre, i, he, hi => by
    subst hi
    have hlen : l.length = pre.length + (r.length + 1) := by rw [he]; simp
    have hs : shT t = true := List.all_eq_true.1 ha t (by rw [he]; simp)
    obtain ⟨a, b, rfl, h1, h2⟩ := shT_ex hs
    have hid : ∀ {R : Type} (K : D → Option R), idx l (pre.length : Int) K = K (.agg [.str a, .str b]) := fun K => by rw [he]; exact idx_mid pre r _ K
    have hw : IntKind.wrap .i64 ((pre.length : Int) + 1) = (pre.length : Int) + 1 := wrapI (by omega) (by omega)
    obtain ⟨n, hn⟩ := g27 l hl ha r (pre ++ [.agg [.str a, .str b]]) ((pre.length : Int) + 1) (by rw [he]; simp) (by simp)
    rw [lastO_app] at hn
    have e : goodT (.agg [.str a, .str b]) = (!(a == []) && decide (a.length ≤ 64) && decide (b.length ≤ 64) && (cleanV a && cleanV b)) := rfl
    rw [snd1_cons, e]
    refine Goes.step ⟨n, ?_⟩
    rw [r27_4a, decide_eq_true (show (pre.length : Int) < (l.length : Int) by omega), cond_true]
    have g0 : ∀ {R : Type} (K : D → Option R), lGet [D.str a, D.str b] 0 K = K (.str a) := fun K => rfl
    have g1 : ∀ {R : Type} (K : D → Option R), lGet [D.str a, D.str b] 1 K = K (.str b) := fun K => rfl
    simp only [hid, dAgg, g0, g1, dStr, h1, h2, hw, cond_true, i64_lt1, show decide ((a.length : Int) > 64) = !decide (a.length ≤ 64) from i64_gt _ 64, show decide ((b.length : Int) > 64) = !decide (b.length ≤ 64) from i64_gt _ 64]
    cases (a == []) with
    | true => rfl
    | false =>
    cases decide (a.length ≤ 64) with
    | false => rfl
    | true =>
    cases decide (b.length ≤ 64) with
    | false => rfl
    | true =>
    cases cleanV a with
    | false => rfl
    | true =>
    cases cleanV b with
    | false => rfl
    | true =>
      simp only [Bool.not_true, Bool.not_false, cond_false, Bool.and_self, Bool.true_and]
      cases hp : lastO pre with
      | none =>
        obtain rfl := lastO_nil hp
        exact hn
      | some p =>
        obtain ⟨q, rfl⟩ := lastO_some hp
        have hsp : shT p = true := List.all_eq_true.1 ha p (by rw [he]; simp)
        obtain ⟨a', b', rfl, _, _⟩ := shT_ex hsp
        have hw2 : IntKind.wrap .i64 (((q ++ [D.agg [.str a', .str b']]).length : Int) - 1) = (q.length : Int) := by rw [wrapI (by omega) (by simp at hlen ⊢; omega)]; simp
        have hid2 : ∀ {R : Type} (K : D → Option R), idx l (q.length : Int) K = K (.agg [.str a', .str b']) := fun K => by rw [he, List.append_assoc]; exact idx_mid q _ _ K
        rw [decide_eq_true (show (((q ++ [D.agg [.str a', .str b']]).length : Int)) > 0 by simp <;> omega), cond_true, hw2, hid2]
        simp only [lGet, List.getElem?_cons_zero]
        show (bif lessB a a' || a == a' then _ else _) = _
        have e : lessB (nmT (.agg [.str a', .str b'])) (nmT (.agg [.str a, .str b])) = lessB a' a := rfl
        rw [le_less]
        simp only [e]
        cases lessB a' a with
        | false => rfl
        | true => simpa using hn
theorem c27 (l : List D) (h : tC l = true) : RetX (Γ mx) 46 [.sl 82 .any l] [] (.b (tsB l)) [] := by
  obtain ⟨h1, h2⟩ := tC_eq h
  by_cases h8 : l.length ≤ 8
  · obtain ⟨n, hn⟩ := g27 (mx := mx) l h8 h2 l [] 0 rfl rfl
    refine ret_goes (Γ := Γ mx) hP hZ h27_ok (by kernel_rfl) ⟨n, ?_⟩
    rw [r27, decide_eq_false (show ¬ (l.length : Int) > 8 by omega), tsB, decide_eq_true h8, Bool.true_and]; exact hn
  · refine ret_goes (Γ := Γ mx) hP hZ h27_ok (by kernel_rfl) ⟨0, ?_⟩
    rw [r27, decide_eq_true (show (l.length : Int) > 8 by omega), tsB, decide_eq_false h8]; rfl
/-! ### get, within -/
theorem g29 (l : List D) (s : List UInt8) (hl : l.length ≤ 8388608) (ha : l.all isT = true) : ∀ (rest pre : List D) (i : Int), l = pre ++ rest → i = (pre.length : Int) →
    Goes (Γ mx) (runS []) 54 2 ⟨[(1, .s s), (8, .sl 82 .any l), (9, .i .i64 (l.length : Int)), (10, .i .i64 i)], []⟩ (.tuple [.s (getS rest s), .b (getB rest s)], [])
  | [], pre, i, he, hi => by
    subst hi
    refine Goes.step ⟨0, ?_⟩
    rw [r29_2a, decide_eq_false (show ¬ (pre.length : Int) < (l.length : Int) by rw [he]; simp)]; rfl
  | t :: r, pre, i, he, hi => by
    subst hi
    have hlen : l.length = pre.length + (r.length + 1) := by rw [he]; simp
    obtain ⟨a, b, rfl⟩ := isT_ex (List.all_eq_true.1 ha t (by rw [he]; simp))
    have hid : ∀ {R : Type} (K : D → Option R), idx l (pre.length : Int) K = K (.agg [.str a, .str b]) := fun K => by rw [he]; exact idx_mid pre r _ K
    have hw : IntKind.wrap .i64 ((pre.length : Int) + 1) = (pre.length : Int) + 1 := wrapI (by omega) (by omega)
    obtain ⟨n, hn⟩ := g29 l s hl ha r (pre ++ [.agg [.str a, .str b]]) ((pre.length : Int) + 1) (by rw [he]; simp) (by simp)
    have e : getO (.agg [.str a, .str b] :: r) s = bif a == s then some (.agg [.str a, .str b]) else getO r s := by
      unfold getO
      rw [List.find?_cons, show eqN s (.agg [.str a, .str b]) = (a == s) from rfl]
      cases (a == s) <;> rfl
    have e1 : getS (.agg [.str a, .str b] :: r) s = bif a == s then b else getS r s := by
      unfold getS; rw [e]; cases (a == s) <;> rfl
    have e2 : getB (.agg [.str a, .str b] :: r) s = bif a == s then true else getB r s := by
      unfold getB; rw [e]; cases (a == s) <;> rfl
    refine Goes.step ⟨n, ?_⟩
    rw [r29_2a, decide_eq_true (show (pre.length : Int) < (l.length : Int) by omega), cond_true, hid, e1, e2]
    simp only [dAgg, lCons, dStr, lNil, hw]
    cases (a == s) with
    | true => rfl
    | false => exact hn
theorem c29 (l : List D) (s : List UInt8) (h : tC l = true) : RetX (Γ mx) 54 [.sl 82 .any l, .s s] [] (.tuple [.s (getS l s), .b (getB l s)]) [] := by
  obtain ⟨h1, h2⟩ := tC_eq h
  obtain ⟨n, hn⟩ := g29 (mx := mx) l s h1 (sh_all h2) l [] 0 rfl rfl
  exact ret_goes (Γ := Γ mx) hP hZ none_ok (by kernel_rfl) ⟨n, by rw [r29]; exact hn⟩
theorem h30_ok : CallsOK (Γ mx) H30 := specs_ok (.cons (spLS_ok c29) .nil)
theorem g30 (l m : List D) (hl : l.length ≤ 8388608) (ha : l.all isT = true) (hm : tC m = true) : ∀ (rest pre : List D) (i : Int), l = pre ++ rest → i = (pre.length : Int) →
    Goes (Γ mx) H30 42 2 ⟨[(1, .sl 82 .any m), (9, .sl 82 .any l), (10, .i .i64 (l.length : Int)), (11, .i .i64 i)], []⟩ (.b (withinB rest m), [])
  | [], pre, i, he, hi => by
    subst hi
    refine Goes.step ⟨0, ?_⟩
    rw [r30_2a, decide_eq_false (show ¬ (pre.length : Int) < (l.length : Int) by rw [he]; simp)]; rfl
  | t :: r, pre, i, he, hi => by
    subst hi
    have hlen : l.length = pre.length + (r.length + 1) := by rw [he]; simp
    obtain ⟨a, b, rfl⟩ := isT_ex (List.all_eq_true.1 ha t (by rw [he]; simp))
    have hid : ∀ {R : Type} (K : D → Option R), idx l (pre.length : Int) K = K (.agg [.str a, .str b]) := fun K => by rw [he]; exact idx_mid pre r _ K
    have hw : IntKind.wrap .i64 ((pre.length : Int) + 1) = (pre.length : Int) + 1 := wrapI (by omega) (by omega)
    obtain ⟨n, hn⟩ := g30 l m hl ha hm r (pre ++ [.agg [.str a, .str b]]) ((pre.length : Int) + 1) (by rw [he]; simp) (by simp)
    have e : withinB (.agg [.str a, .str b] :: r) m = ((getB m a && (getS m a == b)) && withinB r m) := rfl
    refine Goes.step ⟨n, ?_⟩
    rw [r30_2a, decide_eq_true (show (pre.length : Int) < (l.length : Int) by omega), cond_true, hid, e]
    simp only [dAgg, lCons, dStr, lNil, hw, hm, cond_true]
    cases getB m a with
    | false => rfl
    | true =>
      cases (getS m a == b) with
      | false => rfl
      | true => simpa using hn
theorem c30 (a b : List D) (h : (tC a && tC b) = true) : RetX (Γ mx) 42 [.sl 82 .any a, .sl 82 .any b] [] (.b (withinB a b)) [] := by
  simp only [Bool.and_eq_true] at h
  obtain ⟨h1, h2⟩ := tC_eq h.1
  obtain ⟨n, hn⟩ := g30 (mx := mx) a b h1 (sh_all h2) h.2 a [] 0 rfl rfl
  exact ret_goes (Γ := Γ mx) hP hZ h30_ok (by kernel_rfl) ⟨n, by rw [r30]; exact hn⟩
/-! ### same -/
theorem same_cons (a b a' b' : List UInt8) (r s : List D) : sameT (.agg [.str a, .str b] :: r) (.agg [.str a', .str b'] :: s) = ((a == a' && b == b') && sameT r s) := by
  show ((a, b) :: _ == (a', b') :: _) = _
  rfl
theorem same_self (l : List D) : sameT l l = true := by unfold sameT; exact beq_self_eq_true _
theorem same_len {a b : List D} (h : a.length ≠ b.length) : sameT a b = false := by
  unfold sameT
  refine beq_eq_false_iff_ne.2 fun e => h ?_
  have := congrArg List.length e
  simpa using this
theorem len_ne (a b : List D) : ((a.length : Int) != (b.length : Int)) = !decide (a.length = b.length) := by
  by_cases h : a.length = b.length
  · rw [h]; simp
  · rw [decide_eq_false h]; simp; omega
theorem g25 (l m : List D) (hl : l.length ≤ 8388608) (ha : l.all isT = true) (hb : m.all isT = true) : ∀ (rest rest' pre pre' : List D) (i : Int), l = pre ++ rest → m = pre' ++ rest' → rest.length = rest'.length → pre.length = pre'.length → i = (pre.length : Int) →
    Goes (Γ mx) (runS []) 41 4 ⟨[(0, .sl 82 .any l), (1, .sl 82 .any m), (5, .i .i64 i)], []⟩ (.b (sameT rest rest'), [])
  | [], [], pre, pre', i, he, he', hr, hp, hi => by
    subst hi
    refine Goes.step ⟨0, ?_⟩
    rw [r25_4a, decide_eq_false (show ¬ (pre.length : Int) < (l.length : Int) by rw [he]; simp)]; rfl
  | [], _ :: _, pre, pre', i, he, he', hr, hp, hi => by simp at hr
  | _ :: _, [], pre, pre', i, he, he', hr, hp, hi => by simp at hr
  | t :: r, t' :: r', pre, pre', i, he, he', hr, hp, hi => by
    subst hi
    have hlen : l.length = pre.length + (r.length + 1) := by rw [he]; simp
    obtain ⟨a, b, rfl⟩ := isT_ex (List.all_eq_true.1 ha t (by rw [he]; simp))
    obtain ⟨a', b', rfl⟩ := isT_ex (List.all_eq_true.1 hb t' (by rw [he']; simp))
    have hid : ∀ {R : Type} (K : D → Option R), idx l (pre.length : Int) K = K (.agg [.str a, .str b]) := fun K => by rw [he]; exact idx_mid pre r _ K
    have hid' : ∀ {R : Type} (K : D → Option R), idx m (pre.length : Int) K = K (.agg [.str a', .str b']) := fun K => by rw [he', hp]; exact idx_mid pre' r' _ K
    have hw : IntKind.wrap .i64 ((pre.length : Int) + 1) = (pre.length : Int) + 1 := wrapI (by omega) (by omega)
    obtain ⟨n, hn⟩ := g25 l m hl ha hb r r' (pre ++ [.agg [.str a, .str b]]) (pre' ++ [.agg [.str a', .str b']]) ((pre.length : Int) + 1) (by rw [he]; simp) (by rw [he']; simp) (by simpa using hr) (by simp [hp]) (by simp)
    have g0 : ∀ {R : Type} (x y : List UInt8) (K : D → Option R), lGet [D.str x, D.str y] 0 K = K (.str x) := fun x y K => rfl
    have g1 : ∀ {R : Type} (x y : List UInt8) (K : D → Option R), lGet [D.str x, D.str y] 1 K = K (.str y) := fun x y K => rfl
    refine Goes.step ⟨n, ?_⟩
    rw [r25_4a, decide_eq_true (show (pre.length : Int) < (l.length : Int) by omega), cond_true, same_cons]
    simp only [hid, hid', dAgg, g0, g1, dStr, hw]
    cases (a == a') with
    | false => rfl
    | true =>
      cases (b == b') with
      | false => rfl
      | true => simpa using hn
theorem c25 (a b : List D) (h : (tC a && tC b) = true) : RetX (Γ mx) 41 [.sl 82 .any a, .sl 82 .any b] [] (.b (sameT a b)) [] := by
  simp only [Bool.and_eq_true] at h
  obtain ⟨h1, h2⟩ := tC_eq h.1
  obtain ⟨h3, h4⟩ := tC_eq h.2
  by_cases hl : a.length = b.length
  · obtain ⟨n, hn⟩ := g25 (mx := mx) a b h1 (sh_all h2) (sh_all h4) a b [] [] 0 rfl rfl hl rfl rfl
    exact ret_goes (Γ := Γ mx) hP hZ none_ok (by kernel_rfl) ⟨n, by rw [r25, len_ne, decide_eq_true hl]; exact hn⟩
  · exact ret_goes (Γ := Γ mx) hP hZ none_ok (by kernel_rfl) ⟨0, by rw [r25, len_ne, decide_eq_false hl, same_len hl]; rfl⟩
end Go.Proofs.Ytapaenfafjmljaa.V

/- Tags: contracts: sort, clone, clip, make, merge. -/
namespace Go.Proofs.Ytapaenfafjmljaa.V
open Go
set_option maxRecDepth 100000
set_option linter.unusedVariables false
set_option linter.unusedSimpArgs false
section
variable {Γ : Ctx} {g : FuncId}
theorem RetX.ctx {R : List (FuncId × Nat)} {F O : List FuncId} {args : List AV} {obs obs' : Objs} {r : AV} (h : RetX Γ g args obs r obs') (hr : rootsOf R g = rootsOf Γ.roots g) : RetX { Γ with roots := R, refs := F, outs := O } g args obs r obs' := by
  intro w S σ X vals h0 h1 h2
  refine (h w S σ X vals (h0.trans hr) { h1 with glob := ⟨h1.glob.data, h1.glob.ifs⟩ } h2).mono ?_
  rintro v w' ⟨S', σ', hM, hk, hv⟩
  exact ⟨S', σ', { hM with glob := ⟨hM.glob.data, hM.glob.ifs⟩ }, hk, hv⟩
theorem RetX.unctx {R : List (FuncId × Nat)} {F O : List FuncId} {args : List AV} {obs obs' : Objs} {r : AV} (h : RetX { Γ with roots := R, refs := F, outs := O } g args obs r obs') (hr : rootsOf Γ.roots g = rootsOf R g) : RetX Γ g args obs r obs' := by
  intro w S σ X vals h0 h1 h2
  refine (h w S σ X vals (h0.trans hr) { h1 with glob := ⟨h1.glob.data, h1.glob.ifs⟩ } h2).mono ?_
  rintro v w' ⟨S', σ', hM, hk, hv⟩
  exact ⟨S', σ', { hM with glob := ⟨hM.glob.data, hM.glob.ifs⟩ }, hk, hv⟩
end
theorem onNil_eq {R : Type} {α : Type} {l : List α} {A B r : Option R} (h1 : l = [] → A = r) (h2 : l ≠ [] → B = r) : onNil l A B = r := by
  cases l with
  | nil => exact h1 rfl
  | cons a l => exact h2 (by simp)
theorem room32 {n : Nat} (h : n ≤ 100000000) : roomB n 32 = true := by
  unfold roomB
  simp only [Bool.and_eq_true, decide_eq_true_eq]
  exact ⟨rfl, by omega⟩
variable {mx : Int}
/-! ### sorting -/
theorem mid0 {R : Type} (P Q : List D) (y x : D) (K : D → Option R) : lGet (P ++ y :: x :: Q) P.length K = K y := by unfold lGet; simp
theorem mid1 {R : Type} (P Q : List D) (y x : D) (K : D → Option R) : lGet (P ++ y :: x :: Q) (P.length + 1) K = K x := by unfold lGet; simp
theorem set1 (P Q : List D) (y x z : D) : (P ++ y :: x :: Q).set (P.length + 1) z = P ++ y :: z :: Q := by
  rw [List.set_append_right _ _ (by omega), show P.length + 1 - P.length = 1 by omega]; rfl
theorem set0 (P Q : List D) (y x z : D) : (P ++ y :: x :: Q).set P.length z = P ++ z :: x :: Q := by
  rw [List.set_append_right _ _ (by omega), Nat.sub_self]; rfl
theorem srtC_eq {l : List D} (h : srtC l = true) : l.length ≤ 8 ∧ l.all isT = true := by simpa [srtC] using h
theorem srt_len (l : List D) : (srt [] l).length = l.length := by have := (srt_perm l []).length_eq; simpa using this
/-! ### clone, clip -/
theorem c50n : RetX (Γ mx) 58 [.sl 82 .any []] [] (.sl 82 .cl []) [] := by
  have h1 : RetX (Γ mx) 58 [.sl 82 .nl []] [] .snil [] := ret_goes (Γ := Γ mx) hP hZ none_ok (by kernel_rfl) ⟨0, by rw [nlr50]⟩
  have h2 : RetX (Γ mx) 58 [.sl 82 .nn []] [] (.sl 82 .ex []) [] := ret_goes (Γ := Γ mx) hP hZ none_ok (by kernel_rfl) ⟨0, by rw [nnr50]⟩
  have h1 : RetX (Γ mx) 58 [.sl 82 .nl []] [] (.sl 82 .cl []) [] := h1.to fun w S σ v h => by
    simp only [RepA] at h ⊢
    exact ⟨none, 0, h, ⟨rfl, fun _ => rfl⟩, .inl trivial⟩
  have h2 : RetX (Γ mx) 58 [.sl 82 .nn []] [] (.sl 82 .cl []) [] := h2.to fun w S σ v h => by
    simp only [RepA] at h ⊢
    obtain ⟨a, cap, e, hc, _⟩ := h
    simp only [CapOK] at hc
    exact ⟨a, cap, e, ⟨hc.2, fun hn => by rw [hn] at hc; simp at hc⟩, .inl trivial⟩
  intro w S σ X vals hX hM ha
  simp only [RepAs, RepA] at ha
  obtain ⟨v, _, rfl, ⟨a, cap, rfl, hc, h0⟩, rfl⟩ := ha
  simp only [CapOK] at hc
  cases a with
  | none => exact h1 w S σ X _ hX hM (by simp only [RepAs, RepA]; exact ⟨_, _, rfl, ⟨none, cap, rfl, ⟨rfl, rfl, hc.2 rfl⟩, .inl trivial⟩, rfl⟩)
  | some a => exact h2 w S σ X _ hX hM (by simp only [RepAs, RepA]; exact ⟨_, _, rfl, ⟨some a, cap, rfl, ⟨hc.1, rfl⟩, .inl trivial⟩, rfl⟩)
theorem c50c (x : D) (r : List D) (h : tC (x :: r) = true) : RetX (Γ mx) 58 [.sl 82 .any (x :: r)] [] (.ref 82 0) [some (.arr 82 (x :: r) false)] := by
  obtain ⟨h1, h2⟩ := tC_eq h
  exact ret_goes (Γ := Γ mx) hP hZ none_ok (by kernel_rfl) ⟨0, by rw [r50, room32 (by omega)]; rfl⟩
theorem xClone_ok : SpecOK (Γ mx) ⟨58, xClone⟩ := by
  intro args obs r obs' hr
  change xClone args obs = some (true, r, obs') at hr
  unfold xClone at hr
  split at hr
  · simp only [Option.some.injEq, Prod.mk.injEq] at hr
    obtain ⟨h1, rfl, rfl⟩ := hr
    obtain rfl := beq_id h1
    exact c50n.anyc
  · simp only [Option.some.injEq, Prod.mk.injEq, Bool.and_eq_true] at hr
    obtain ⟨⟨h1, h2⟩, rfl, rfl⟩ := hr
    obtain rfl := beq_id h1
    exact (c50c _ _ h2).anyc
  · exact absurd hr (by simp)
theorem c53 (l : List D) (_ : true = true) : RetX (Γ mx) 57 [.sl 82 .any l] [] (.sl 82 .cl l) [] := by
  refine ret_goes (Γ := Γ mx) hP hZ none_ok (by kernel_rfl) ⟨0, ?_⟩
  rw [r53]
  simp
end Go.Proofs.Ytapaenfafjmljaa.V

/- Tags: contracts: make, merge. -/
namespace Go.Proofs.Ytapaenfafjmljaa.V
open Go
set_option maxRecDepth 100000
set_option linter.unusedVariables false
set_option linter.unusedSimpArgs false
variable {mx : Int}
theorem wk_pair {P : Program} (c : Cp) (l : List D) (a : AV) : WkA P (.tuple [.sl 82 c l, a]) (.tuple [.sl 82 .any l, a]) := WkA.tuple (.cons (WkA.sl _ _ _) (.cons (WkA.refl _) .nil))
theorem wk_nil {P : Program} (a : AV) : WkA P (.tuple [.snil, a]) (.tuple [.sl 82 .any [], a]) := WkA.tuple (.cons (WkA.nil _) (.cons (WkA.refl _) .nil))
theorem tC_of {l : List D} (h1 : l.length ≤ 8388608) (h2 : l.all shT = true) : tC l = true := by unfold tC; rw [decide_eq_true h1, h2]; rfl
theorem sh_srt {l : List D} (h : l.all shT = true) : (srt [] l).all shT = true := List.all_eq_true.2 fun d hd => List.all_eq_true.1 h d (by
  have := (srt_perm l []).mem_iff.1 hd
  simpa using this)
theorem tC_srt {l : List D} (h : tC l = true) : tC (srt [] l) = true := by
  obtain ⟨h1, h2⟩ := tC_eq h
  exact tC_of (by rw [srt_len]; exact h1) (sh_srt h2)
def mkR (s : List D) (dup : Bool) : AV := bif dup then .tuple [.snil, .i .i64 8] else bif tsB s then .tuple [.sl 82 .cl s, .i .i64 0] else .tuple [.snil, .i .i64 2]
theorem mk_val (l : List D) (h8 : l.length ≤ 8) : ∀ {w : World} {S : Addr → Prop} {σ : Loc} {v : Value}, RepA (Γ mx).P w S σ [] (mkR (srt [] l) (adjE (srt [] l))) v → RepA (Γ mx).P w S σ [] (.tuple [.sl 82 .any (mkL l), .i .i64 (mkE l)]) v := by
  intro w S σ v h
  unfold mkR at h
  unfold mkL mkE
  rw [decide_eq_false (by omega), cond_false]
  cases hd : adjE (srt [] l) with
  | true => rw [hd] at h; exact wk_nil _ _ _ _ _ _ h
  | false =>
    rw [hd, cond_false] at h
    rw [cond_false]
    cases ht : tsB (srt [] l) with
    | true => rw [ht] at h; exact wk_pair _ _ _ _ _ _ _ _ h
    | false => rw [ht] at h; exact wk_nil _ _ _ _ _ _ h
theorem mk_big {l : List D} (h : ¬ l.length ≤ 8) : mkE l = 9 ∧ mkL l = [] := by
  have h1 : mkE l = 9 := by unfold mkE; rw [decide_eq_true (by omega)]; rfl
  exact ⟨h1, by unfold mkL; rw [h1]; rfl⟩
noncomputable def Γ0 (mx : Int) : Ctx := { Γ mx with roots := [], refs := [], outs := [] }
theorem spec_ctx {s : Spec} (hr : rootsOf [] s.g = rootsOf (Γ mx).roots s.g) (h : SpecOK (Γ mx) s) : SpecOK (Γ0 mx) s := fun args obs r obs' hh => (h args obs r obs' hh).ctx hr
/-! ### the document's Make -/
def ltx (x y : D) : Bool := ltT y x
def atF (x : D) : List D → Nat → Nat → Nat
  | [], _, k => k
  | y :: r, i, k => atF x r (i + 1) (bif ltx x y then i + 1 else k)
theorem atF_hi {x : D} : ∀ {Q : List D} {i k : Nat}, (∀ y ∈ Q, ltx x y = false) → atF x Q i k = k
  | [], _, _, _ => rfl
  | y :: r, i, k, h => by rw [atF, h y (by simp), cond_false]; exact atF_hi fun z hz => h z (by simp [hz])
theorem atF_take {x : D} : ∀ {Q : List D} {i : Nat}, Strict Q → atF x Q i i = i + (Q.takeWhile (ltx x)).length
  | [], i, _ => rfl
  | y :: r, i, h => by
    have hc := List.pairwise_cons.1 h
    rw [atF]
    cases hy : ltx x y with
    | true =>
      rw [cond_true, atF_take hc.2, List.takeWhile_cons, hy]
      simp; omega
    | false =>
      rw [cond_false, List.takeWhile_cons, hy]
      have : ∀ z ∈ r, ltx x z = false := fun z hz => by
        cases hz' : ltx x z with
        | false => rfl
        | true =>
          have := lessB_trans (hc.1 z hz) hz'
          unfold ltx ltT at hy
          rw [this] at hy; exact absurd hy (by simp)
      rw [atF_hi this]; simp
theorem ins_take {x : D} : ∀ {Q : List D}, Strict Q → Q.any (eqN (nmT x)) = false → insL x Q = Q.takeWhile (ltx x) ++ x :: Q.dropWhile (ltx x)
  | [], _, _ => rfl
  | y :: r, h, hn => by
    have hc := List.pairwise_cons.1 h
    rw [List.any_cons, Bool.or_eq_false_iff] at hn
    rw [insL, List.takeWhile_cons, List.dropWhile_cons]
    cases hy : ltx x y with
    | true =>
      have : ltT x y = false := lessB_asymm hy
      rw [this, cond_false, ins_take hc.2 hn.2]; rfl
    | false =>
      have hlt : ltT x y = true := by
        cases hl : ltT x y with
        | true => rfl
        | false =>
          have := lessB_tri (a := nmT x) (b := nmT y) hl hy
          have h1 := hn.1
          unfold eqN at h1
          rw [this] at h1; simp at h1
      rw [hlt]; rfl
theorem tw_take (p : D → Bool) : ∀ Q : List D, Q.take (Q.takeWhile p).length = Q.takeWhile p ∧ Q.drop (Q.takeWhile p).length = Q.dropWhile p
  | [] => ⟨rfl, rfl⟩
  | y :: r => by
    rw [List.takeWhile_cons, List.dropWhile_cons]
    cases p y with
    | true => simp [tw_take p r]
    | false => simp
theorem ins_strict {x : D} {Q : List D} (h : Strict Q) (hn : Q.any (eqN (nmT x)) = false) : Strict (insL x Q) := by
  refine adj_strict (insL_weak (h.imp fun {a b} hab => lessB_asymm hab)) ((weak_adj (insL_weak (h.imp fun {a b} hab => lessB_asymm hab))).2 ?_)
  rw [nd_perm (insL_perm x Q)]
  unfold Nd
  rw [List.map_cons, List.nodup_cons]
  exact ⟨fun hm => by rw [any_eqN.2 hm] at hn; exact absurd hn (by simp), strict_nd h⟩
theorem h23_ok : CallsOK (Γ mx) H23 := specs_ok (.cons (spL1s_ok c27) .nil)
def rmR (out rest : List D) : AV := bif dupG out rest then .tuple [.snil, .i .i64 8] else bif tsB (srt out rest) then .tuple [.sl 82 .any (srt out rest), .i .i64 0] else .tuple [.snil, .i .i64 2]
theorem dup_mem {out : List D} {x : D} {r : List D} (h : out.any (eqN (nmT x)) = true) : dupG out (x :: r) = true := by rw [dupG, h]; rfl
theorem dup_step {out : List D} {x : D} {r : List D} (h : out.any (eqN (nmT x)) = false) : rmR out (x :: r) = rmR (insL x out) r := by unfold rmR; rw [dupG, h, Bool.false_or, srt]
/-- the row that has one more -/
theorem put_row (out : List D) (x : D) (h : Strict out) (hn : out.any (eqN (nmT x)) = false) : out.take (atF x out 0 0) ++ x :: out.drop (atF x out 0 0) = insL x out := by
  rw [atF_take h, Nat.zero_add, (tw_take _ _).1, (tw_take _ _).2, ins_take h hn]
theorem atF_le {x : D} : ∀ {Q : List D} {i k : Nat}, k ≤ i → atF x Q i k ≤ i + Q.length
  | [], i, k, h => by simpa [atF] using h
  | y :: r, i, k, h => by
    rw [atF]
    have := atF_le (x := x) (Q := r) (i := i + 1) (k := bif ltx x y then i + 1 else k) (by cases ltx x y <;> simp <;> omega)
    simp; omega
theorem take_drop_len (l : List D) (k : Nat) : List.take (l.length - k) (List.drop k l) = List.drop k l := List.take_of_length_le (by simp)
theorem sh_ins {x : D} {out : List D} (hx : shT x = true) (ho : out.all shT = true) : (insL x out).all shT = true := List.all_eq_true.2 fun d hd => by
  rcases List.mem_cons.1 ((insL_perm x out).mem_iff.1 hd) with rfl | hd
  · exact hx
  · exact List.all_eq_true.1 ho d hd
theorem rm_val (l : List D) (h8 : l.length ≤ 8) : ∀ {w : World} {S : Addr → Prop} {σ : Loc} {v : Value}, RepA (Γ mx).P w S σ [] (rmR [] l) v → RepA (Γ mx).P w S σ [] (.tuple [.sl 82 .any (mkL l), .i .i64 (mkE l)]) v := by
  intro w S σ v h
  unfold rmR at h
  rw [dup_adj] at h
  unfold mkL mkE
  rw [decide_eq_false (by omega), cond_false]
  cases hd : adjE (srt [] l) with
  | true => rw [hd] at h; exact wk_nil _ _ _ _ _ _ h
  | false =>
    rw [hd, cond_false] at h
    rw [cond_false]
    cases ht : tsB (srt [] l) with
    | true => rw [ht] at h; exact h
    | false => rw [ht] at h; exact wk_nil _ _ _ _ _ _ h
end Go.Proofs.Ytapaenfafjmljaa.V

/- Tags: contracts: merge, text. -/
namespace Go.Proofs.Ytapaenfafjmljaa.V
open Go
set_option maxRecDepth 100000
set_option linter.unusedVariables false
set_option linter.unusedSimpArgs false
variable {mx : Int}
/-! ### merge -/
theorem new_cons (t : D) (r b : List D) : newT (t :: r) b = bif getB b (nmT t) then newT r b else t :: newT r b := by
  unfold newT
  rw [List.filter_cons]
  cases getB b (nmT t) <;> simp
theorem tC_app {a b : List D} (h1 : a.length + b.length ≤ 100) (h2 : a.all shT = true) (h3 : b.all shT = true) : tC (a ++ b) = true := tC_of (by simp; omega) (by rw [List.all_append, h2, h3]; rfl)
theorem ts_len {l : List D} (h : tsB l = true) : l.length ≤ 8 := by unfold tsB at h; simp only [Bool.and_eq_true, decide_eq_true_eq] at h; exact h.1
theorem new_len (a b : List D) : (newT a b).length ≤ a.length := List.length_filter_le _ _
theorem mg_no {a b : List D} (h : (tsB a && tsB b) = false) : mgE a b = 2 ∧ mgL a b = [] := by unfold mgE mgL; rw [h]; exact ⟨rfl, rfl⟩
theorem mg_yes {a b : List D} (h : (tsB a && tsB b) = true) : mgE a b = mkE (b ++ newT a b) ∧ mgL a b = mkL (b ++ newT a b) := by unfold mgE mgL; rw [h]; exact ⟨rfl, rfl⟩
/-! ### text -/
section
variable {Γ : Ctx} {g : FuncId}
end
theorem pt_len {d : D} (h1 : (nmT d).length ≤ 64) (h2 : (vlT d).length ≤ 64) : (ptT d).length ≤ 400 := by
  have e1 := esc_len (nmT d)
  have e2 := esc_len (vlT d)
  unfold ptT
  simp only [List.length_append, List.length_cons]
  omega
theorem good_len {d : D} (h : goodT d = true) : (nmT d).length ≤ 64 ∧ (vlT d).length ≤ 64 := by
  unfold goodT at h
  simp only [Bool.and_eq_true, decide_eq_true_eq] at h
  exact ⟨h.1.1.2, h.1.2⟩
theorem snd_good : ∀ {l : List D} {o : Option D}, snd1 o l = true → ∀ d ∈ l, goodT d = true
  | [], _, _, d, hd => by cases hd
  | t :: r, o, h, d, hd => by
    rw [snd1_cons] at h
    simp only [Bool.and_eq_true] at h
    rcases List.mem_cons.1 hd with rfl | hd
    · exact h.1
    · exact snd_good h.2.2 d hd
theorem ts_good {l : List D} (h : tsB l = true) : ∀ d ∈ l, goodT d = true := by
  unfold tsB at h
  simp only [Bool.and_eq_true] at h
  exact snd_good h.2
theorem joinT_len : ∀ {l : List D}, (∀ d ∈ l, goodT d = true) → (joinT l).length ≤ 401 * l.length
  | [], _ => by simp [joinT, Lib.join]
  | [t], h => by
    have := good_len (h t (by simp))
    have := pt_len this.1 this.2
    unfold joinT
    rw [List.map_cons, List.map_nil, Lib.join_one]
    simp; omega
  | t :: y :: r, h => by
    have := good_len (h t (by simp))
    have := pt_len this.1 this.2
    have ih := joinT_len (l := y :: r) fun d hd => h d (List.mem_cons_of_mem _ hd)
    unfold joinT at ih ⊢
    rw [List.map_cons, join_cons _ (by simp)]
    simp only [List.length_append, List.length_cons, List.length_nil] at ih ⊢
    omega
theorem txt_strs (q : List (List UInt8)) : (q.map D.str).map txt = q := by rw [List.map_map]; exact List.map_id q
theorem joinC_of {q : List (List UInt8)} (h1 : q.length ≤ 1000) (h2 : (Lib.join q [38]).length ≤ 1000000) : joinC (q.map D.str) [38] = true := by
  have ha : (q.map D.str).all isStr = true := List.all_eq_true.2 fun d hd => by obtain ⟨x, _, rfl⟩ := List.mem_map.1 hd; rfl
  unfold joinC joinV
  rw [ha, txt_strs, decide_eq_true (by simp; omega), decide_eq_true (by omega)]; rfl
theorem joinV_of (q : List (List UInt8)) : joinV (q.map D.str) [38] = Lib.join q [38] := by unfold joinV; rw [txt_strs]
theorem esc_app (a b : List UInt8) : (escV a ++ [61]) ++ escV b = escV a ++ 61 :: escV b := by simp
theorem join_snoc {t : D} : ∀ (p : List D), p ≠ [] → joinT (p ++ [t]) = (joinT p ++ [38]) ++ ptT t
  | [], h => absurd rfl h
  | [x], _ => by unfold joinT; simp [Lib.join, List.intercalate]
  | x :: z :: p, _ => by
    have ih := join_snoc (t := t) (z :: p) (by simp)
    have a : ∀ q : List D, q ≠ [] → joinT (x :: q) = ptT x ++ [38] ++ joinT q := fun q hq => by unfold joinT; rw [List.map_cons, join_cons _ (by simpa using hq)]
    rw [List.cons_append, a _ (by simp), ih, a _ (by simp)]
    simp only [List.append_assoc]
end Go.Proofs.Ytapaenfafjmljaa.V

/- Tags: contracts: parse. Some lines were written by program. -/
namespace Go.Proofs
set_option maxRecDepth 100000
def Lt.lays145_ren : Go.Shelf.Ren := ⟨fun | 145 => 40 | 217 => 61 | 219 => 59 | 220 => 53 | 224 => 63 | 225 => 62 | 266 => 65 | 267 => 64 | 314 => 66 | n => n, fun | 3 => 3 | 4 => 4 | 5 => 5 | 9 => 9 | 46 => 120 | 51 => 121 | 59 => 97 | 146 => 122 | n => n, fun | 1 => 0 | n => n⟩
theorem Lt.lays145 : Go.Proofs.Lays.n145 Try.prog Lt.lays145_ren :=
  { mixed := by kernel_rfl, f145 := Try.func40.trans (congrArg some (by kernel_rfl)), f217 := Try.func61.trans (congrArg some (by kernel_rfl)), f219 := Try.func59.trans (congrArg some (by kernel_rfl)), f220 := Try.func53.trans (congrArg some (by kernel_rfl)), f224 := Try.func63.trans (congrArg some (by kernel_rfl)), f225 := Try.func62.trans (congrArg some (by kernel_rfl)), f266 := Try.func65.trans (congrArg some (by kernel_rfl)), f267 := Try.func64.trans (congrArg some (by kernel_rfl)), f314 := Try.func66.trans (congrArg some (by kernel_rfl)), t3 := Try.underlying3, a3 := Try.isAgg3, z3 := Try.sizeOf3, v3 := Try.zeroValue3, t4 := Try.underlying4, a4 := Try.isAgg4, z4 := Try.sizeOf4, v4 := Try.zeroValue4, t5 := Try.underlying5, a5 := Try.isAgg5, z5 := Try.sizeOf5, v5 := Try.zeroValue5, t9 := Try.underlying9, a9 := Try.isAgg9, z9 := Try.sizeOf9, v9 := Try.zeroValue9, t46 := Try.underlying120, a46 := Try.isAgg120, z46 := Try.sizeOf120, v46 := Try.zeroValue120, t51 := Try.underlying121, a51 := Try.isAgg121, z51 := Try.sizeOf121, v51 := Try.zeroValue121, t59 := Try.underlying97, a59 := Try.isAgg97, z59 := Try.sizeOf97, v59 := Try.zeroValue97, t146 := Try.underlying122, a146 := Try.isAgg122, z146 := Try.sizeOf122, v146 := Try.zeroValue122, g1 := by kernel_rfl }
end Go.Proofs
namespace Go.Proofs.Ytapaenfafjmljaa.V
open Go Go.RowKit
set_option maxRecDepth 100000
set_option linter.unusedVariables false
set_option linter.unusedSimpArgs false
variable {mx : Int}
theorem below_drewN {w : World} (k : Nat) : Below w.heap.size w (w.drewN k) := ⟨rfl, rfl, rfl, Nat.le_refl _, fun _ _ => rfl⟩
theorem cut_ret (s : List UInt8) (h : s32 s = true) : RetX (Γ mx) 40 [.s s, .s [61]] [] (.tuple [.s (tcA s), .s (tcB s), .b (tcF s)]) [] := by
  refine ret_shelfN (by kernel_rfl) fun w S vals hS hG ha => ?_
  simp only [RepAs, RepA] at ha
  obtain ⟨v, _, rfl, ⟨s, rfl, rfl⟩, v', _, rfl, ⟨u, hu, rfl⟩, rfl⟩ := ha
  obtain rfl := ba_eq hu
  refine (Any.strings_Cut Lt.lays145 s ⟨#[61]⟩ mx w (by simpa [s32] using h) (max_cell hG)).mono ?_
  rintro e w' ⟨rfl, n, rfl⟩
  refine ⟨_, rfl, below_drewN n, S, fun _ h => h, fun _ h => .inl h, ?_⟩
  simp only [RepA, RepAs]
  exact ⟨_, rfl, _, _, rfl, ⟨_, list_eta _, rfl⟩, _, _, rfl, ⟨_, list_eta _, rfl⟩, _, _, rfl, rfl, rfl⟩
theorem spCut_ok : SpecOK (Γ mx) ⟨40, dat spCut⟩ := dat_ok fun args r hr => by
  unfold spCut at hr
  split at hr
  · simp only [Option.some.injEq, Prod.mk.injEq] at hr
    obtain ⟨h1, rfl⟩ := hr
    exact cut_ret _ h1
  · exact absurd hr (by simp)
def psR (done : List D) (parts : List (List UInt8)) : AV := match prL parts with
  | none => .tuple [.snil, .i .i64 5]
  | some m => bif tsB (done ++ m) then .tuple [.sl 82 .any (done ++ m), .i .i64 0] else .tuple [.snil, .i .i64 2]
theorem psR_none {done : List D} {p : List UInt8} {q : List (List UInt8)} (h : prP p = none) : psR done (p :: q) = .tuple [.snil, .i .i64 5] := by unfold psR; rw [prL, h]
theorem psR_some {done : List D} {p : List UInt8} {q : List (List UInt8)} {t : D} (h : prP p = some t) : psR done (p :: q) = psR (done ++ [t]) q := by
  unfold psR
  rw [prL, h]
  simp only
  cases prL q with
  | none => rfl
  | some m => simp
theorem psR_nil (done : List D) : psR done [] = bif tsB done then .tuple [.sl 82 .any done, .i .i64 0] else .tuple [.snil, .i .i64 2] := by unfold psR; simp [prL]
theorem tc_some {p a b : List UInt8} (h : cutE p = some (a, b)) : tcA p = a ∧ tcB p = b ∧ tcF p = true := by
  unfold tcA tcB tcF; rw [cut_cutE, h]; exact ⟨rfl, rfl, rfl⟩
theorem tc_none {p : List UInt8} (h : cutE p = none) : tcA p = p ∧ tcB p = [] ∧ tcF p = false := by
  unfold tcA tcB tcF; rw [cut_cutE, h]; exact ⟨rfl, rfl, rfl⟩
theorem unS_len (s : List UInt8) : (unS s).length ≤ s.length := by
  unfold unS
  cases h : unV s with
  | none => simp
  | some c => exact un_len _ s c (Nat.le_refl _) h
theorem cut_len {p a b : List UInt8} (h : cutE p = some (a, b)) : a.length ≤ p.length ∧ b.length ≤ p.length := by
  rw [(cutE_some h).1]; simp; omega
theorem pr_sh {p : List UInt8} {t : D} (hp : p.length ≤ 4194304) (h : prP p = some t) : shT t = true := by
  unfold prP at h
  split at h
  · exact absurd h (by simp)
  · rename_i a b hc
    obtain ⟨_, h⟩ := cond_some h
    cases h
    have := cut_len hc
    have h1 := unS_len a
    have h2 := unS_len b
    have e : shT (mkT (unS a) (unS b)) = (short (unS a) && short (unS b)) := rfl
    rw [e, short_of (by omega), short_of (by omega)]; rfl
theorem sh_snoc {done : List D} {t : D} (h : done.all shT = true) (ht : shT t = true) : (done ++ [t]).all shT = true := by rw [List.all_append, h]; simpa using ht
theorem pr_eq {p a b : List UInt8} (h : cutE p = some (a, b)) : prP p = bif unE a == 0 && unE b == 0 then some (mkT (unS a) (unS b)) else none := by unfold prP; rw [h]
theorem ne_beq (n : Int) : (n != 0) = !(n == 0) := rfl
/-! ### tags.Parse -/
theorem ps_val {s : List UInt8} (h : s ≠ []) : ∀ {w : World} {S : Addr → Prop} {σ : Loc} {v : Value}, RepA (Γ mx).P w S σ [] (psR [] (spl 38 s)) v → RepA (Γ mx).P w S σ [] (.tuple [.sl 82 .any (psL s), .i .i64 (psE s)]) v := by
  intro w S σ v hv
  have hs : (s == []) = false := beq_eq_false_iff_ne.2 h
  unfold psR at hv
  unfold psL psE
  rw [hs, cond_false, cond_false]
  cases hp : prL (spl 38 s) with
  | none => rw [hp] at hv; exact wk_nil _ _ _ _ _ _ hv
  | some m =>
    rw [hp] at hv
    simp only [List.nil_append] at hv ⊢
    cases ht : tsB m with
    | true => rw [ht] at hv; exact hv
    | false => rw [ht] at hv; exact wk_nil _ _ _ _ _ _ hv
/-! ### the document's Parse -/
end Go.Proofs.Ytapaenfafjmljaa.V

/- Tags: the laws, in the machine over values. -/
namespace Go.Proofs.Ytapaenfafjmljaa.V
open Go
set_option maxRecDepth 100000
set_option linter.unusedVariables false
set_option linter.unusedSimpArgs false
variable {mx : Int}
/-! ### sizes -/
theorem tC_nil : tC [] = true := rfl
theorem tC_mk {l : List D} (h : tC l = true) : tC (mkL l) = true := by
  unfold mkL
  cases mkE l == 0 with
  | true => exact tC_srt h
  | false => rfl
theorem tC_mg {a b : List D} (ha : tC a = true) (hb : tC b = true) : tC (mgL a b) = true := by
  cases h : tsB a && tsB b with
  | false => rw [(mg_no h).2]; rfl
  | true =>
    rw [(mg_yes h).2]
    simp only [Bool.and_eq_true] at h
    have h1 := ts_len h.1
    have h2 := ts_len h.2
    have h3 := new_len a b
    exact tC_mk (tC_app (by omega) (tC_eq hb).2 (List.all_eq_true.2 fun d hd => List.all_eq_true.1 (tC_eq ha).2 d (List.mem_filter.1 hd).1))
theorem prL_sh : ∀ {q : List (List UInt8)} {l : List D}, (∀ p ∈ q, p.length ≤ 4194304) → prL q = some l → l.all shT = true
  | [], l, _, h => by rw [prL] at h; cases h; rfl
  | p :: q, l, hs, h => by
    rw [prL] at h
    cases hp : prP p with
    | none => rw [hp] at h; exact absurd h (by simp)
    | some t =>
      rw [hp] at h
      simp only at h
      cases hq : prL q with
      | none => rw [hq] at h; exact absurd h (by simp)
      | some m =>
        rw [hq] at h
        simp only [Option.map_some, Option.some.injEq] at h
        subst h
        rw [List.all_cons, pr_sh (hs p (by simp)) hp, prL_sh (fun x hx => hs x (by simp [hx])) hq]; rfl
theorem tC_ps {s : List UInt8} (h : short s = true) : tC (psL s) = true := by
  have hl := short_le h
  unfold psL
  cases s == [] with
  | true => rfl
  | false =>
    rw [cond_false]
    cases hp : prL (spl 38 s) with
    | none => rfl
    | some m =>
      simp only
      cases ht : tsB m with
      | false => rfl
      | true => exact tC_of (by have := ts_len ht; rw [cond_true]; omega) (prL_sh (fun p hp => by have := spl_len 38 s p hp; omega) hp)
theorem short_tx (l : List D) : short (txS l) = true := by
  unfold txS
  cases h : tsB l with
  | false => rfl
  | true =>
    have h1 := joinT_len (ts_good h)
    have h2 := ts_len h
    exact short_of (by rw [cond_true]; omega)
/-! ### the laws -/
theorem mg_fail {a b : List D} (h : (mgE a b == 0) = false) : mgL a b = [] := by
  cases h0 : tsB a && tsB b with
  | false => exact (mg_no h0).2
  | true =>
    rw [(mg_yes h0).1] at h
    rw [(mg_yes h0).2]
    unfold mkL; rw [h]; rfl
end Go.Proofs.Ytapaenfafjmljaa.V

/- Rules, objects, versions: what the functions come to; what the law of later moments says. No program in sight. -/
namespace Go.Proofs.Ytapaenfafjmljaa.V
open Go
set_option maxRecDepth 100000
set_option linter.unusedVariables false
set_option linter.unusedSimpArgs false
/-! ### versions -/
structure Ver where
  id : Int
  mr : Bool
  sz : Int
  bl : Int
  dg : List D
  cr : Int
  md : Int
  un : Int
  ho : Bool
  c : Cp
  tg : List D
def lkV (v : Ver) : D := .agg [.int .i64 v.md, .int .i64 v.un, .bool v.ho]
def vD (v : Ver) : D := .agg [.int .u64 v.id, .bool v.mr, .int .i64 v.sz, .int .u64 v.bl, .agg v.dg, .int .i64 v.cr, .agg [.int .i64 v.md, .int .i64 v.un, .bool v.ho], .slice v.c v.tg]
def vOf : D → Option Ver
  | .agg [.int .u64 id, .bool mk, .int .i64 sz, .int .u64 bl, .agg dg, .int .i64 cr, .agg [.int .i64 md, .int .i64 un, .bool ho], .slice c tg] => some ⟨id, mk, sz, bl, dg, cr, md, un, ho, c, tg⟩
  | _ => none
theorem vOf_vD (v : Ver) : vOf (vD v) = some v := rfl
theorem vOf_eq {d : D} {v : Ver} (h : vOf d = some v) : d = vD v := by
  unfold vOf at h
  split at h
  · cases h; rfl
  · exact absurd h (by simp)
def isU8 : D → Bool
  | .int .u8 _ => true
  | _ => false
def dgC (l : List D) : Bool := decide (l.length = 32) && l.all isU8
def vC (d : D) : Bool := match vOf d with | some v => tC v.tg && (dgC v.dg && decide (0 ≤ v.id)) | none => false
theorem vC_ex {d : D} (h : vC d = true) : ∃ v, d = vD v ∧ tC v.tg = true := by
  unfold vC at h
  cases hv : vOf d with
  | none => rw [hv] at h; exact absurd h (by simp)
  | some v => rw [hv] at h; exact ⟨v, vOf_eq hv, (Bool.and_eq_true_iff.1 h).1⟩
theorem vC_dg {v : Ver} (h : vC (vD v) = true) : dgC v.dg = true := (Bool.and_eq_true_iff.1 (Bool.and_eq_true_iff.1 (show (tC v.tg && (dgC v.dg && decide (0 ≤ v.id))) = true from h)).2).1
theorem vC_id {v : Ver} (h : vC (vD v) = true) : 0 ≤ v.id := of_decide_eq_true (Bool.and_eq_true_iff.1 (Bool.and_eq_true_iff.1 (show (tC v.tg && (dgC v.dg && decide (0 ≤ v.id))) = true from h)).2).2
def isLk : D → Bool
  | .agg [.int .i64 _, .int .i64 _, .bool _] => true
  | _ => false
theorem isLk_ex {d : D} (h : isLk d = true) : ∃ a b c, d = .agg [.int .i64 a, .int .i64 b, .bool c] := by
  unfold isLk at h
  split at h
  · exact ⟨_, _, _, rfl⟩
  · exact absurd h (by simp)
def bindsD : D → Int → Bool
  | .agg [.int _ md, .int _ un, .bool _], t => md != 0 && decide (t < un)
  | _, _ => false
def heldD : D → Int → Bool
  | .agg [.int k md, .int k' un, .bool ho], t => ho || bindsD (.agg [.int k md, .int k' un, .bool ho]) t
  | _, _ => false
def clampZ (t : Int) : Int := bif decide (((-62135596800) : Int) < (bif decide ((253402300799 : Int) < t) then 253402300799 else t)) then bif decide ((253402300799 : Int) < t) then 253402300799 else t else ((-62135596800))
def lkB : D → Bool
  | .agg [.int _ md, .int _ un, .bool _] => bif md == 0 then un == 0 else bif md == 1 then un == clampZ un else bif md == 2 then un == clampZ un else false
  | _ => false
def dg0 : D := .agg [D.int .u8 0, D.int .u8 0, D.int .u8 0, D.int .u8 0, D.int .u8 0, D.int .u8 0, D.int .u8 0, D.int .u8 0, D.int .u8 0, D.int .u8 0, D.int .u8 0, D.int .u8 0, D.int .u8 0, D.int .u8 0, D.int .u8 0, D.int .u8 0, D.int .u8 0, D.int .u8 0, D.int .u8 0, D.int .u8 0, D.int .u8 0, D.int .u8 0, D.int .u8 0, D.int .u8 0, D.int .u8 0, D.int .u8 0, D.int .u8 0, D.int .u8 0, D.int .u8 0, D.int .u8 0, D.int .u8 0, D.int .u8 0]
def lk0 : D := .agg [.int .i64 0, .int .i64 0, .bool false]
def goodV (v : Ver) : Bool := bif v.id == 0 then false else bif v.cr != clampZ v.cr then false else
  bif v.mr then v.sz == 0 && (v.bl == 0 && (eqD (.agg v.dg) dg0 && (eqD (lkV v) lk0 && ((v.tg.length : Int) == 0))))
  else decide (v.sz ≥ 0) && (decide (v.sz ≤ 16384) && (decide (v.bl > 0) && (lkB (lkV v) && tsB v.tg)))
def vGood (d : D) : Bool := match vOf d with | some v => goodV v | none => false
def behV (v p : Ver) : Bool := decide (v.id > p.id) && decide (v.cr ≥ p.cr)
def behD (d e : D) : Bool := match vOf d, vOf e with | some v, some p => behV v p | _, _ => false
def ris1 : Option Ver → List Ver → Bool
  | _, [] => true
  | none, v :: r => goodV v && ris1 (some v) r
  | some p, v :: r => goodV v && (behV v p && ris1 (some v) r)
def vsC (l : List D) : Bool := decide (l.length ≤ 8388608) && l.all vC
def vsOf (l : List D) : List Ver := l.filterMap vOf
def risB (l : List D) : Bool := ris1 none (vsOf l)
theorem vs_ex : ∀ {l : List D}, l.all vC = true → ∃ vs : List Ver, l = vs.map vD ∧ vsOf l = vs
  | [], _ => ⟨[], rfl, rfl⟩
  | d :: r, h => by
    have h : vC d = true ∧ r.all vC = true := by simpa using h
    obtain ⟨v, rfl, _⟩ := vC_ex h.1
    obtain ⟨vs, h1, h2⟩ := vs_ex h.2
    refine ⟨v :: vs, by rw [h1]; rfl, ?_⟩
    unfold vsOf at h2 ⊢
    rw [List.filterMap_cons, vOf_vD]
    simp only
    rw [h2]
/-! ### objects -/
def keyB (s : List UInt8) : Bool := !(s == []) && (decide (s.length ≤ 200) && cleanV s)
def oKey : D → List UInt8
  | .agg [.str k, .slice _ _] => k
  | _ => []
def oVs : D → List D
  | .agg [.str _, .slice _ l] => l
  | _ => []
def oC : D → Bool
  | .agg [.str k, .slice _ l] => short k && vsC l
  | _ => false
theorem oC_ex {d : D} (h : oC d = true) : ∃ k c l, d = .agg [.str k, .slice c l] ∧ short k = true ∧ vsC l = true := by
  unfold oC at h
  split at h
  · simp only [Bool.and_eq_true] at h; exact ⟨_, _, _, rfl, h.1, h.2⟩
  · exact absurd h (by simp)
def oSnd (o : D) : Bool := keyB (oKey o) && (decide (0 < (oVs o).length) && risB (oVs o))
def cloneD (d : D) : D := match vOf d with | some v => vD { v with c := .cl } | none => d
def v0 : D := .agg [.int .u64 0, .bool false, .int .i64 0, .int .u64 0, dg0, .int .i64 0, lk0, .slice .nl []]
def latD (o : D) : D := bif oSnd o then cloneD ((oVs o).getD ((oVs o).length - 1) v0) else v0
def latE (o : D) : Int := bif oSnd o then 0 else 2
def vIs (d : D) (i : Int) : Bool := match vOf d with | some v => v.id == i | none => false
def plN : List D → Int → Int → Int
  | [], _, _ => -1
  | d :: r, i, k => bif vIs d i then k else plN r i (k + 1)
def plI (l : List D) (i : Int) : Int := plN l i 0
def plO (o : D) (i : Int) : Int := plI (oVs o) i
def vCr (d : D) : Int := match vOf d with | some v => v.cr | none => 0
def replB (o : D) (i : Int) : Bool := oSnd o && (!decide (plO o i < 0) && !(plO o i == ((oVs o).length : Int) - 1))
def replT (o : D) (i : Int) : Int := bif replB o i then vCr ((oVs o).getD (plO o i + 1).toNat v0) else 0
/-! ### rules -/
def rC : D → Bool
  | .agg [.str p, .slice _ t, .int .i64 _, .int .i64 _, .bool _] => short p && tC t
  | _ => false
theorem rC_ex {d : D} (h : rC d = true) : ∃ p c t a b m, d = .agg [.str p, .slice c t, .int .i64 a, .int .i64 b, .bool m] ∧ short p = true ∧ tC t = true := by
  unfold rC at h
  split at h
  · simp only [Bool.and_eq_true] at h; exact ⟨_, _, _, _, _, _, rfl, h.1, h.2⟩
  · exact absurd h (by simp)
def rGood : D → Bool
  | .agg [.str p, .slice _ t, .int .i64 a, .int .i64 b, .bool _] => decide (p.length ≤ 200) && (cleanV p && (tsB t && (decide (a ≥ 0) && (decide (a ≤ 36500) && (decide (b ≥ 0) && decide (b ≤ 36500))))))
  | _ => false
def rsC (l : List D) : Bool := decide (l.length ≤ 8388608) && l.all rC
def rsA (l : List D) : Bool := l.all rGood
def rsB (l : List D) : Bool := decide (l.length ≤ 8) && rsA l
def rsN : List D → Int → Int
  | [], _ => -1
  | r :: l, k => bif rGood r then rsN l (k + 1) else k
def rsI (l : List D) : Int := rsN l 0
theorem rsN_all : ∀ (l : List D) (k : Int), 0 ≤ k → decide (rsN l k ≥ 0) = !rsA l
  | [], k, h => rfl
  | r :: l, k, h => by
    rw [rsN]
    unfold rsA
    rw [List.all_cons]
    cases rGood r with
    | true => rw [cond_true, Bool.true_and]; exact rsN_all l (k + 1) (by omega)
    | false => rw [cond_false, Bool.false_and]; exact decide_eq_true h
def hpB (s p : List UInt8) : Bool := decide (p.length ≤ s.length) && (s.take p.length == p)
def vTg (d : D) : List D := match vOf d with | some v => v.tg | none => []
def rPre : D → List UInt8
  | .agg [.str p, .slice _ _, .int _ _, .int _ _, .bool _] => p
  | _ => []
def rTg : D → List D
  | .agg [.str _, .slice _ t, .int _ _, .int _ _, .bool _] => t
  | _ => []
def rDays : D → Int
  | .agg [.str _, .slice _ _, .int _ a, .int _ _, .bool _] => a
  | _ => 0
def rOld : D → Int
  | .agg [.str _, .slice _ _, .int _ _, .int _ b, .bool _] => b
  | _ => 0
def rMk : D → Bool
  | .agg [.str _, .slice _ _, .int _ _, .int _ _, .bool m] => m
  | _ => false
def meantD (r o : D) : Bool := latE o == 0 && (hpB (oKey o) (rPre r) && withinB (rTg r) (vTg (latD o)))
/-! ### events -/
def evD (t id : Int) (lk : D) : D := .agg [.int .i64 t, .int .u64 id, lk]
def addD (a b : Int) : Int := IntKind.wrap .i64 (a + IntKind.wrap .i64 (b * 86400))
/-- what a rule does to a version -/
def ev1 (o : D) (v : Ver) (r : D) : List D := bif !meantD r o then [] else bif replB o v.id && decide (rOld r > 0) then [evD (addD (replT o v.id) (rOld r)) v.id (lkV v)]
  else bif !replB o v.id && (v.mr && (rMk r && ((oVs o).length : Int) == 1)) then [evD (-62135596800) v.id (lkV v)] else []
def evV (rl : List D) (o : D) (v : Ver) : List D := rl.flatMap (ev1 o v)
def ev2 (o : D) (v : Ver) (r : D) : List D := bif meantD r o && (decide (rDays r > 0) && !v.mr) then [evD (addD v.cr (rDays r)) 0 lk0] else []
def newV (o : D) : Ver := ((vsOf (oVs o)).getLast?).getD ⟨0, false, 0, 0, [], 0, 0, 0, false, .nl, []⟩
def evsL (rl : List D) (o : D) : List D := (vsOf (oVs o)).flatMap (evV rl o) ++ rl.flatMap (ev2 o (newV o))
def evT : D → Int
  | .agg [.int _ t, .int _ _, _] => t
  | _ => 0
def evI : D → Int
  | .agg [.int _ _, .int _ i, _] => i
  | _ => 0
def evK : D → D
  | .agg [.int _ _, .int _ _, l] => l
  | _ => .agg []
def isDue (t : Int) (x : D) : Bool := !(decide (t < evT x) || heldD (evK x) t)
def dueF (E : List D) (t : Int) : Option D := E.find? (isDue t)
def goodB (rl : List D) (o : D) : Bool := rsB rl && oSnd o
def dueI (rl : List D) (o : D) (t : Int) : Int := bif goodB rl o then (match dueF (evsL rl o) t with | some x => evI x | none => 0) else 0
def dueM (rl : List D) (o : D) (t : Int) : Bool := bif goodB rl o then (match dueF (evsL rl o) t with | some x => evI x == 0 | none => false) else false
def dueE (rl : List D) (o : D) : Int := bif goodB rl o then 0 else 2
/-! ### the law -/
/-- held, as the law asks it -/
def heldL (v : Ver) (t : Int) : Bool := v.ho || (v.md != 0 && decide (t < v.un))
theorem held_lk (v : Ver) (t : Int) : heldD (lkV v) t = heldL v t := rfl
theorem ris_good : ∀ {l : List Ver} {o : Option Ver}, ris1 o l = true → ∀ v ∈ l, goodV v = true
  | [], _, _, v, hv => by cases hv
  | w :: r, o, h, v, hv => by
    have hh : goodV w = true ∧ ris1 (some w) r = true := by
      cases o with
      | none => simp only [ris1, Bool.and_eq_true] at h; exact h
      | some p => simp only [ris1, Bool.and_eq_true] at h; exact ⟨h.1, h.2.2⟩
    rcases List.mem_cons.1 hv with rfl | hv
    · exact hh.1
    · exact ris_good hh.2 v hv
theorem ris_lt : ∀ {l : List Ver} {p : Ver}, ris1 (some p) l = true → ∀ v ∈ l, p.id < v.id
  | [], _, _, v, hv => by cases hv
  | w :: r, p, h, v, hv => by
    simp only [ris1, behV, Bool.and_eq_true, decide_eq_true_eq] at h
    rcases List.mem_cons.1 hv with rfl | hv
    · exact h.2.1.1
    · have := ris_lt h.2.2 v hv; omega
theorem ris_pw : ∀ {l : List Ver} {o : Option Ver}, ris1 o l = true → l.Pairwise fun a b => a.id < b.id
  | [], _, _ => .nil
  | w :: r, o, h => by
    have hh : ris1 (some w) r = true := by
      cases o with
      | none => simp only [ris1, Bool.and_eq_true] at h; exact h.2
      | some p => simp only [ris1, Bool.and_eq_true] at h; exact h.2.2
    exact List.pairwise_cons.2 ⟨fun v hv => ris_lt hh v hv, ris_pw hh⟩
theorem good_id {v : Ver} (h : goodV v = true) : v.id ≠ 0 := by
  intro e
  unfold goodV at h
  rw [e] at h
  exact absurd h (by simp)
theorem ris_uniq {l : List Ver} (h : l.Pairwise fun a b => a.id < b.id) : ∀ a ∈ l, ∀ b ∈ l, a.id = b.id → a = b := by
  induction l with
  | nil => intro a ha; cases ha
  | cons x r ih =>
    have hc := List.pairwise_cons.1 h
    intro a ha b hb e
    rcases List.mem_cons.1 ha with ea | ha' <;> rcases List.mem_cons.1 hb with eb | hb'
    · rw [ea, eb]
    · have := hc.1 b hb'; rw [ea] at e; omega
    · have := hc.1 a ha'; rw [eb] at e; omega
    · exact ih hc.2 a ha' b hb' e
theorem mem_evV {rl : List D} {o : D} {v : Ver} {x : D} (h : x ∈ evV rl o v) : evI x = v.id ∧ evK x = lkV v := by
  unfold evV at h
  obtain ⟨r, _, h⟩ := List.mem_flatMap.1 h
  unfold ev1 at h
  cases hm : meantD r o with
  | false => rw [hm] at h; cases h
  | true =>
    rw [hm] at h
    cases h1 : replB o v.id && decide (rOld r > 0) with
    | true => rw [h1] at h; simp only [Bool.not_true, cond_false, cond_true, List.mem_singleton] at h; subst h; exact ⟨rfl, rfl⟩
    | false =>
      rw [h1] at h
      cases h2 : !replB o v.id && (v.mr && (rMk r && ((oVs o).length : Int) == 1)) with
      | true => rw [h2] at h; simp only [Bool.not_true, cond_false, cond_true, List.mem_singleton] at h; subst h; exact ⟨rfl, rfl⟩
      | false => rw [h2] at h; cases h
theorem mem_ev2 {rl : List D} {o : D} {v : Ver} {x : D} (h : x ∈ rl.flatMap (ev2 o v)) : evI x = 0 := by
  obtain ⟨r, _, h⟩ := List.mem_flatMap.1 h
  unfold ev2 at h
  cases h1 : meantD r o && (decide (rDays r > 0) && !v.mr) with
  | true => rw [h1] at h; simp only [cond_true, List.mem_singleton] at h; subst h; rfl
  | false => rw [h1] at h; cases h
/-- the events' numbers: those of versions, rising; then none -/
def Rise (E : List D) : Prop := E.Pairwise fun x y => evI y = 0 ∨ (evI x ≠ 0 ∧ evI x ≤ evI y)
theorem rise_all {rl : List D} {o : D} (h : risB (oVs o) = true) : Rise (evsL rl o) := by
  unfold Rise evsL
  have hp := ris_pw h
  have hg := ris_good h
  have h1 : ∀ vs : List Ver, (∀ v ∈ vs, goodV v = true) → vs.Pairwise (fun a b => a.id < b.id) → (vs.flatMap (evV rl o)).Pairwise fun x y => evI y = 0 ∨ (evI x ≠ 0 ∧ evI x ≤ evI y) := by
    intro vs
    induction vs with
    | nil => intro _ _; exact .nil
    | cons v r ih =>
      intro hg hp
      have hc := List.pairwise_cons.1 hp
      rw [List.flatMap_cons]
      refine List.pairwise_append.2 ⟨?_, ih (fun w hw => hg w (by simp [hw])) hc.2, ?_⟩
      · have hv := good_id (hg v (by simp))
        refine List.Pairwise.imp_of_mem (R := fun _ _ => True) ?_ (List.pairwise_of_forall fun _ _ => trivial)
        intro x y hx hy _
        rw [(mem_evV hx).1, (mem_evV hy).1]
        exact .inr ⟨hv, Int.le_refl _⟩
      · intro x hx y hy
        obtain ⟨w, hw, hy⟩ := List.mem_flatMap.1 hy
        rw [(mem_evV hx).1, (mem_evV hy).1]
        have := hc.1 w hw
        exact .inr ⟨good_id (hg v (by simp)), by omega⟩
  refine List.pairwise_append.2 ⟨h1 _ hg hp, ?_, ?_⟩
  · refine List.Pairwise.imp_of_mem (R := fun _ _ => True) ?_ (List.pairwise_of_forall fun _ _ => trivial)
    intro x y _ hy _
    exact .inl (mem_ev2 hy)
  · intro x _ y hy
    exact .inl (mem_ev2 hy)
theorem due_later {t u : Int} (h : t ≤ u) {x : D} (hl : ∃ a b c, evK x = .agg [.int .i64 a, .int .i64 b, .bool c]) (hx : isDue t x = true) : isDue u x = true := by
  obtain ⟨a, b, c, e⟩ := hl
  unfold isDue at hx ⊢
  rw [e] at hx ⊢
  simp only [heldD, bindsD, Bool.not_eq_true', Bool.or_eq_false_iff, decide_eq_false_iff_not, Bool.and_eq_false_iff] at hx ⊢
  refine ⟨by omega, hx.2.1, ?_⟩
  rcases hx.2.2 with h1 | h1
  · exact .inl h1
  · exact .inr (by omega)
theorem due_mono {E : List D} {t u : Int} (h : t ≤ u) (hl : ∀ x ∈ E, ∃ a b c, evK x = .agg [.int .i64 a, .int .i64 b, .bool c]) (hr : Rise E) {x : D} (hx : dueF E t = some x) : ∃ y, dueF E u = some y ∧ (y = x ∨ evI x = 0 ∨ (evI y ≠ 0 ∧ evI y ≤ evI x)) := by
  unfold Rise at hr
  induction E with
  | nil => simp [dueF] at hx
  | cons z E ih =>
    unfold dueF at hx ⊢
    rw [List.find?_cons] at hx ⊢
    have hc := List.pairwise_cons.1 hr
    cases hz : isDue t z with
    | true =>
      rw [hz] at hx
      have ez : z = x := Option.some.inj hx
      rw [due_later h (hl z (by simp)) hz]
      exact ⟨z, rfl, .inl ez⟩
    | false =>
      rw [hz] at hx
      cases hu : isDue u z with
      | true =>
        have hm := List.mem_of_find?_eq_some hx
        refine ⟨z, rfl, ?_⟩
        rcases hc.1 x hm with h1 | h1
        · exact .inr (.inl h1)
        · exact .inr (.inr h1)
      | false => exact ih (fun x hx => hl x (by simp [hx])) hc.2 hx
theorem lk_all (rl : List D) (o : D) : ∀ x ∈ evsL rl o, ∃ a b c, evK x = .agg [.int .i64 a, .int .i64 b, .bool c] := by
  intro x hx
  unfold evsL at hx
  rcases List.mem_append.1 hx with hx | hx
  · obtain ⟨v, _, hx⟩ := List.mem_flatMap.1 hx
    rw [(mem_evV hx).2]
    exact ⟨_, _, _, rfl⟩
  · obtain ⟨r, _, hx⟩ := List.mem_flatMap.1 hx
    unfold ev2 at hx
    cases h1 : meantD r o && (decide (rDays r > 0) && !(newV o).mr) with
    | true => rw [h1] at hx; simp only [cond_true, List.mem_singleton] at hx; subst hx; exact ⟨_, _, _, rfl⟩
    | false => rw [h1] at hx; cases hx
theorem snd_ris {o : D} (h : oSnd o = true) : risB (oVs o) = true := by
  unfold oSnd at h
  simp only [Bool.and_eq_true] at h
  exact h.2.2
/-- what is due is not held -/
theorem due_free {rl : List D} {o : D} {t : Int} (hg : goodB rl o = true) : ∀ v ∈ vsOf (oVs o), v.id = dueI rl o t → heldL v t = false := by
  intro v hv e
  have hs : oSnd o = true := by unfold goodB at hg; simp only [Bool.and_eq_true] at hg; exact hg.2
  have hr := snd_ris hs
  have hv0 := good_id (ris_good hr v hv)
  unfold dueI at e
  rw [hg, cond_true] at e
  cases hd : dueF (evsL rl o) t with
  | none => rw [hd] at e; exact absurd e hv0
  | some x =>
    rw [hd] at e
    simp only at e
    have hx := List.mem_of_find?_eq_some hd
    have hdue := List.find?_some hd
    unfold evsL at hx
    rcases List.mem_append.1 hx with hx | hx
    · obtain ⟨w, hw, hx⟩ := List.mem_flatMap.1 hx
      obtain ⟨h1, h2⟩ := mem_evV hx
      have : v = w := ris_uniq (ris_pw hr) v hv w hw (e.trans h1)
      subst this
      unfold isDue at hdue
      rw [h2, held_lk] at hdue
      simp only [Bool.not_eq_true', Bool.or_eq_false_iff] at hdue
      exact hdue.2
    · rw [mem_ev2 hx] at e; exact absurd e hv0
theorem due_law {rl : List D} {o : D} {t u : Int} (hg : goodB rl o = true) (h : t ≤ u) :
    (dueI rl o t ≠ 0 → dueI rl o u ≠ 0 ∧ dueI rl o u ≤ dueI rl o t) ∧ (dueI rl o t = 0 → dueM rl o t = true → dueM rl o u = true ∨ dueI rl o u ≠ 0) := by
  have hs : oSnd o = true := by unfold goodB at hg; simp only [Bool.and_eq_true] at hg; exact hg.2
  have hr := rise_all (rl := rl) (snd_ris hs)
  unfold dueI dueM
  rw [hg]
  simp only [cond_true]
  cases hd : dueF (evsL rl o) t with
  | none => exact ⟨fun h0 => absurd rfl h0, fun _ h0 => by cases h0⟩
  | some x =>
    obtain ⟨y, hy, hyx⟩ := due_mono h (lk_all rl o) hr hd
    rw [hy]
    simp only
    refine ⟨fun h0 => ?_, fun _ _ => ?_⟩
    · rcases hyx with rfl | h1 | h1
      · exact ⟨h0, Int.le_refl _⟩
      · exact absurd h1 h0
      · exact h1
    · by_cases h2 : evI y = 0
      · rw [h2]; exact .inl rfl
      · exact .inr h2
end Go.Proofs.Ytapaenfafjmljaa.V

/- Rules: what the machine over values makes of the functions: equations, written by program. -/
namespace Go.Proofs.Ytapaenfafjmljaa.V
open Go
set_option maxRecDepth 100000
set_option linter.unusedVariables false
set_option linter.unusedSimpArgs false
def spDt (u : TypeId) (c : D → Bool) (f : D → Int → AV) : List AV → Option (Bool × AV)
  | [.d t x, .i .i64 n] => some (Nat.beq t u && c x, f x n)
  | _ => none
def spDu (u : TypeId) (c : D → Bool) (f : D → Int → AV) : List AV → Option (Bool × AV)
  | [.d t x, .i .u64 n] => some (Nat.beq t u && c x, f x n)
  | _ => none
def spClamp : List AV → Option (Bool × AV)
  | [.i .i64 n] => some (true, .i .i64 (clampZ n))
  | _ => none
def spLD (u v : TypeId) (c : List D → D → Bool) (f : List D → D → AV) : List AV → Option (Bool × AV)
  | [.sl t _ l, .d s x] => some (Nat.beq t u && (Nat.beq s v && c l x), f l x)
  | _ => none
def spLDt (u v : TypeId) (c : List D → D → Bool) (f : List D → D → Int → AV) : List AV → Option (Bool × AV)
  | [.sl t _ l, .d s x, .i .i64 n] => some (Nat.beq t u && (Nat.beq s v && c l x), f l x n)
  | _ => none
def xIs : List AV → Objs → Option (Bool × AV × Objs)
  | [.d t x, .ptr 0 [] s], [some (.box b (.i .u64 i))] => some (Nat.beq t 52 && (Nat.beq s 22 && (Nat.beq b 22 && vC x)), .b (vIs x i), [some (.box 22 (.i .u64 i))])
  | _, _ => none
variable {mx : Int}
theorem r128 (call : Handle) (lab : Lab) (s : List UInt8) (p : List UInt8) : evF (Γ mx) call lab 37 [.s s, .s p] [] =
  bif decide (((List.length s : Int)) ≥ ((List.length p : Int))) then (bif decide ((0:Int) ≤ ((List.length p : Int))) && decide (((List.length p : Int)) ≤ (List.length s : Int)) then (some (.b ((List.take ((Int.toNat ((List.length p : Int))) - 0) (List.drop 0 s)) == p), [])) else none) else (some (.b false, [])) := by kernel_rfl
def H95 : Handle := runS [⟨37, dat (sp2 (fun _ _ => true) fun a b => .b (hpB a b))⟩]
theorem r95 (lab : Lab) (s : List UInt8) (p : List UInt8) : evF (Γ mx) H95 lab 19 [.s s, .s p] [] =
  some (.b (hpB s p), []) := by kernel_rfl
def H152 : Handle := runS [⟨58, xClone⟩, ⟨57, dat (spL1 82 (fun _ => true) fun l => .sl 82 .cl l)⟩]
theorem r152 (lab : Lab) (x : D) (r : List D) : evF (Γ mx) H152 lab 51 [.sl 82 .any ((x :: r))] [] =
  bif tC ((x :: r)) then (some (.sl 82 .cl ((((x :: r)))), [])) else none := by kernel_rfl
theorem nr152 (lab : Lab) : evF (Γ mx) H152 lab 51 [.sl 82 .any []] [] =
  some (.sl 82 .cl (([])), []) := by kernel_rfl
def H127 : Handle := runS [⟨51, dat (spL1 82 tC fun l => .sl 82 .cl l)⟩]
theorem r127 (lab : Lab) (vid : Int) (vmk : Bool) (vsz : Int) (vbl : Int) (vdg : List D) (vcr : Int) (vmd : Int) (vun : Int) (vho : Bool) (vc : Cp) (vtg : List D) : evF (Γ mx) H127 lab 38 [.d 52 (D.agg [D.int .u64 vid, D.bool vmk, D.int .i64 vsz, D.int .u64 vbl, D.agg vdg, D.int .i64 vcr, D.agg [D.int .i64 vmd, D.int .i64 vun, D.bool vho], D.slice vc vtg])] [] =
  bif tC vtg then (some (.d 52 (D.agg [D.int .u64 vid, D.bool vmk, D.int .i64 vsz, D.int .u64 vbl, D.agg vdg, D.int .i64 vcr, D.agg [D.int .i64 vmd, D.int .i64 vun, D.bool vho], D.slice .cl vtg]), [])) else none := by kernel_rfl
end Go.Proofs.Ytapaenfafjmljaa.V

/- Rules: contracts: holds, versions, keys, rules' form. -/
namespace Go.Proofs.Ytapaenfafjmljaa.V
open Go
set_option maxRecDepth 100000
set_option linter.unusedVariables false
set_option linter.unusedSimpArgs false
section
variable {Γ : Ctx} {g : FuncId}
theorem spDt_ok {u : TypeId} {c : D → Bool} {f : D → Int → AV} (h : ∀ x n, c x = true → RetX Γ g [.d u x, .i .i64 n] [] (f x n) []) : SpecOK Γ ⟨g, dat (spDt u c f)⟩ := dat_ok fun args r hr => by
  unfold spDt at hr
  split at hr
  · simp only [Option.some.injEq, Prod.mk.injEq, Bool.and_eq_true] at hr
    obtain ⟨⟨h1, h2⟩, rfl⟩ := hr
    obtain rfl := beq_id h1
    exact h _ _ h2
  · exact absurd hr (by simp)
theorem spDu_ok {u : TypeId} {c : D → Bool} {f : D → Int → AV} (h : ∀ x n, c x = true → RetX Γ g [.d u x, .i .u64 n] [] (f x n) []) : SpecOK Γ ⟨g, dat (spDu u c f)⟩ := dat_ok fun args r hr => by
  unfold spDu at hr
  split at hr
  · simp only [Option.some.injEq, Prod.mk.injEq, Bool.and_eq_true] at hr
    obtain ⟨⟨h1, h2⟩, rfl⟩ := hr
    obtain rfl := beq_id h1
    exact h _ _ h2
  · exact absurd hr (by simp)
theorem spClamp_ok (h : ∀ n, RetX Γ g [.i .i64 n] [] (.i .i64 (clampZ n)) []) : SpecOK Γ ⟨g, dat spClamp⟩ := dat_ok fun args r hr => by
  unfold spClamp at hr
  split at hr
  · simp only [Option.some.injEq, Prod.mk.injEq] at hr
    obtain ⟨h1, rfl⟩ := hr
    exact h _
  · exact absurd hr (by simp)
theorem spLD_ok {u v : TypeId} {c : List D → D → Bool} {f : List D → D → AV} (h : ∀ l x, c l x = true → RetX Γ g [.sl u .any l, .d v x] [] (f l x) []) : SpecOK Γ ⟨g, dat (spLD u v c f)⟩ := dat_ok fun args r hr => by
  unfold spLD at hr
  split at hr
  · simp only [Option.some.injEq, Prod.mk.injEq, Bool.and_eq_true] at hr
    obtain ⟨⟨h1, h2, h3⟩, rfl⟩ := hr
    obtain rfl := beq_id h1
    obtain rfl := beq_id h2
    exact (h _ _ h3).anyc
  · exact absurd hr (by simp)
theorem spLDt_ok {u v : TypeId} {c : List D → D → Bool} {f : List D → D → Int → AV} (h : ∀ l x n, c l x = true → RetX Γ g [.sl u .any l, .d v x, .i .i64 n] [] (f l x n) []) : SpecOK Γ ⟨g, dat (spLDt u v c f)⟩ := dat_ok fun args r hr => by
  unfold spLDt at hr
  split at hr
  · simp only [Option.some.injEq, Prod.mk.injEq, Bool.and_eq_true] at hr
    obtain ⟨⟨h1, h2, h3⟩, rfl⟩ := hr
    obtain rfl := beq_id h1
    obtain rfl := beq_id h2
    exact (h _ _ _ h3).anyc
  · exact absurd hr (by simp)
end
variable {mx : Int}
def prevO : List D → Option Ver
  | [] => none
  | d :: r => match prevO r with | some x => some x | none => vOf d
theorem prevO_app (p : List D) (v : Ver) : prevO (p ++ [vD v]) = some v := by
  induction p with
  | nil => rfl
  | cons d p ih => rw [List.cons_append, prevO, ih]
theorem vsC_eq {l : List D} (h : vsC l = true) : l.length ≤ 8388608 ∧ l.all vC = true := by simpa [vsC] using h
theorem len_pos (n : Nat) : decide ((n : Int) > 0) = decide (0 < n) := decide_eq_decide.2 (by omega)
theorem c128 (a b : List UInt8) (_ : true = true) : RetX (Γ mx) 37 [.s a, .s b] [] (.b (hpB a b)) [] := by
  refine ret_goes (Γ := Γ mx) hP hZ none_ok (by kernel_rfl) ⟨0, ?_⟩
  rw [r128, hpB, show decide ((a.length : Int) ≥ (b.length : Int)) = decide (b.length ≤ a.length) from decide_eq_decide.2 (by omega), decide_eq_true (show (0 : Int) ≤ (b.length : Int) by omega)]
  cases decide (b.length ≤ a.length) <;> rfl
theorem h95_ok : CallsOK (Γ mx) H95 := specs_ok (.cons (sp2_ok c128) .nil)
theorem c95 (a b : List UInt8) (_ : true = true) : RetX (Γ mx) 19 [.s a, .s b] [] (.b (hpB a b)) [] := ret_goes (Γ := Γ mx) hP hZ h95_ok (by kernel_rfl) ⟨0, by rw [r95]⟩
theorem rsC_eq {l : List D} (h : rsC l = true) : l.length ≤ 8388608 ∧ l.all rC = true := by simpa [rsC] using h
/-! ### the latest -/
theorem h152_ok : CallsOK (Γ mx) H152 := specs_ok (.cons xClone_ok (.cons (spL1_ok c53) .nil))
theorem c152 (l : List D) (h : tC l = true) : RetX (Γ mx) 51 [.sl 82 .any l] [] (.sl 82 .cl l) [] := by
  cases l with
  | nil => exact ret_goes (Γ := Γ mx) hP hZ h152_ok (by kernel_rfl) ⟨0, by rw [nr152]⟩
  | cons x r => exact ret_goes (Γ := Γ mx) hP hZ h152_ok (by kernel_rfl) ⟨0, by rw [r152, h]; rfl⟩
theorem h127_ok : CallsOK (Γ mx) H127 := specs_ok (.cons (spL1_ok c152) .nil)
theorem c127 (d : D) (h : vC d = true) : RetX (Γ mx) 38 [.d 52 d] [] (.d 52 (cloneD d)) [] := by
  obtain ⟨v, rfl, ht⟩ := vC_ex h
  refine ret_goes (Γ := Γ mx) hP hZ h127_ok (by kernel_rfl) ⟨0, ?_⟩
  refine (r127 (mx := mx) _ v.id v.mr v.sz v.bl v.dg v.cr v.md v.un v.ho v.c v.tg).trans ?_
  rw [ht]; rfl
theorem snd_pos {k : List UInt8} {c : Cp} {l : List D} (h : oSnd (.agg [.str k, .slice c l]) = true) : 0 < l.length := by
  unfold oSnd at h
  simp only [Bool.and_eq_true, decide_eq_true_eq] at h
  exact h.2.1
theorem last_ex {l : List D} (h : 0 < l.length) (ha : l.all vC = true) : ∃ q v, l = q ++ [vD v] ∧ tC v.tg = true := by
  rcases List.eq_nil_or_concat l with rfl | ⟨q, x, rfl⟩
  · exact absurd h (by simp)
  · rw [List.concat_eq_append] at *
    obtain ⟨v, rfl, ht⟩ := vC_ex (List.all_eq_true.1 ha x (by simp))
    exact ⟨q, v, rfl, ht⟩
theorem getD_last (q : List D) (x z : D) : (q ++ [x]).getD ((q ++ [x]).length - 1) z = x := by
  rw [List.length_append, List.length_singleton, Nat.add_sub_cancel]; simp
theorem getD_mid (q r : List D) (x z : D) : (q ++ x :: r).getD q.length z = x := by simp [List.getD]
theorem latD_ex (o : D) (h : oC o = true) : ∃ v, latD o = vD v ∧ tC v.tg = true := by
  obtain ⟨k, c, l, rfl, h1, h2⟩ := oC_ex h
  obtain ⟨hl, ha⟩ := vsC_eq h2
  unfold latD
  cases hs : oSnd (.agg [.str k, .slice c l]) with
  | false => exact ⟨⟨0, false, 0, 0, _, 0, 0, 0, false, .nl, []⟩, rfl, rfl⟩
  | true =>
    obtain ⟨q, v, rfl, ht⟩ := last_ex (snd_pos hs) ha
    rw [cond_true, show (oVs (.agg [.str k, .slice c (q ++ [vD v])])) = q ++ [vD v] from rfl, getD_last]
    exact ⟨{ v with c := .cl }, rfl, ht⟩
/-! ### the place -/
theorem plN_range : ∀ (l : List D) (i k : Int), 0 ≤ k → plN l i k = -1 ∨ (k ≤ plN l i k ∧ plN l i k < k + l.length)
  | [], _, _, _ => .inl rfl
  | d :: r, i, k, h => by
    rw [plN]
    cases vIs d i with
    | true => rw [cond_true]; exact .inr ⟨by omega, by simp only [List.length_cons]; omega⟩
    | false =>
      rw [cond_false]
      rcases plN_range r i (k + 1) (by omega) with h1 | h1
      · exact .inl h1
      · exact .inr ⟨by omega, by simp only [List.length_cons]; omega⟩
theorem mid_ex {l : List D} (ha : l.all vC = true) {n : Nat} (h : n < l.length) : ∃ q v r, l = q ++ vD v :: r ∧ q.length = n := by
  obtain ⟨v, hv, _⟩ := vC_ex (List.all_eq_true.1 ha _ (List.getElem_mem h))
  refine ⟨l.take n, v, l.drop (n + 1), ?_, by rw [List.length_take]; omega⟩
  rw [← hv, List.getElem_cons_drop, List.take_append_drop]
end Go.Proofs.Ytapaenfafjmljaa.V

/- Rules: contracts: the events, what is due; the law's function. -/
namespace Go.Proofs.Ytapaenfafjmljaa.V
open Go
set_option maxRecDepth 100000
set_option linter.unusedVariables false
set_option linter.unusedSimpArgs false
variable {mx : Int}
theorem room40 {n : Nat} (h : n ≤ 200000000) : roomB n 40 = true := by
  unfold roomB
  simp only [Bool.and_eq_true, decide_eq_true_eq]
  exact ⟨rfl, by omega⟩
theorem ev2_eq (E : List D) (o : D) (v : Ver) (p : List UInt8) (c : Cp) (t : List D) (a b : Int) (m : Bool) : E ++ ev2 o v (.agg [.str p, .slice c t, .int .i64 a, .int .i64 b, .bool m]) =
    bif meantD (.agg [.str p, .slice c t, .int .i64 a, .int .i64 b, .bool m]) o then (bif decide (a > 0) then (bif !v.mr then E ++ [evD (addD v.cr a) 0 lk0] else E) else E) else E := by
  unfold ev2
  rw [show rDays (.agg [.str p, .slice c t, .int .i64 a, .int .i64 b, .bool m]) = a from rfl]
  cases meantD (.agg [.str p, .slice c t, .int .i64 a, .int .i64 b, .bool m]) o <;> cases decide (a > 0) <;> cases v.mr <;> simp
theorem ev2_len (o : D) (v : Ver) (r : D) : (ev2 o v r).length ≤ 1 := by
  unfold ev2
  cases meantD r o && (decide (rDays r > 0) && !v.mr) <;> simp
theorem ev1_eq (E : List D) (k : List UInt8) (ck : Cp) (ol : List D) (v : Ver) (p : List UInt8) (c : Cp) (t : List D) (a b : Int) (m : Bool) : E ++ ev1 (.agg [.str k, .slice ck ol]) v (.agg [.str p, .slice c t, .int .i64 a, .int .i64 b, .bool m]) =
    bif !meantD (.agg [.str p, .slice c t, .int .i64 a, .int .i64 b, .bool m]) (.agg [.str k, .slice ck ol]) then E else
      bif replB (.agg [.str k, .slice ck ol]) v.id then (bif decide (b > 0) then E ++ [evD (addD (replT (.agg [.str k, .slice ck ol]) v.id) b) v.id (lkV v)] else E)
      else (bif v.mr then (bif m then (bif (ol.length : Int) == 1 then E ++ [evD (-62135596800) v.id (lkV v)] else E) else E) else E) := by
  unfold ev1
  rw [show rOld (.agg [.str p, .slice c t, .int .i64 a, .int .i64 b, .bool m]) = b from rfl, show rMk (.agg [.str p, .slice c t, .int .i64 a, .int .i64 b, .bool m]) = m from rfl, show oVs (.agg [.str k, .slice ck ol]) = ol from rfl]
  cases meantD (.agg [.str p, .slice c t, .int .i64 a, .int .i64 b, .bool m]) (.agg [.str k, .slice ck ol]) <;> cases replB (.agg [.str k, .slice ck ol]) v.id <;> cases decide (b > 0) <;> cases v.mr <;> cases m <;> cases (ol.length : Int) == 1 <;> simp
theorem ev1_len (o : D) (v : Ver) (r : D) : (ev1 o v r).length ≤ 1 := by
  unfold ev1
  cases meantD r o <;> cases replB o v.id && decide (rOld r > 0) <;> cases !replB o v.id && (v.mr && (rMk r && ((oVs o).length : Int) == 1)) <;> simp
theorem fm_len {α : Type} (f : α → List D) (h : ∀ x, (f x).length ≤ 1) : ∀ l : List α, (l.flatMap f).length ≤ l.length
  | [] => Nat.le_refl _
  | x :: r => by rw [List.flatMap_cons, List.length_append, List.length_cons]; have := h x; have := fm_len f h r; omega
theorem new_eq (k : List UInt8) (c : Cp) (q : List D) (v : Ver) : newV (.agg [.str k, .slice c (q ++ [vD v])]) = v := by
  unfold newV vsOf
  rw [show oVs (.agg [.str k, .slice c (q ++ [vD v])]) = q ++ [vD v] from rfl, List.filterMap_append]
  simp [vOf_vD]
def isEv : D → Prop := fun x => ∃ t i a b c, x = .agg [.int .i64 t, .int .u64 i, .agg [.int .i64 a, .int .i64 b, .bool c]]
theorem ev_all (rl : List D) (o : D) : ∀ x ∈ evsL rl o, isEv x := by
  intro x hx
  unfold evsL at hx
  rcases List.mem_append.1 hx with hx | hx
  · obtain ⟨v, _, hx⟩ := List.mem_flatMap.1 hx
    unfold evV at hx
    obtain ⟨r, _, hx⟩ := List.mem_flatMap.1 hx
    unfold ev1 at hx
    revert hx
    cases meantD r o <;> cases replB o v.id && decide (rOld r > 0) <;> cases !replB o v.id && (v.mr && (rMk r && ((oVs o).length : Int) == 1)) <;> intro hx <;> first | cases hx; done | (simp only [Bool.not_true, Bool.not_false, cond_false, cond_true, List.mem_singleton, List.not_mem_nil] at hx; subst hx; exact ⟨_, _, _, _, _, rfl⟩) | (simp only [Bool.not_true, Bool.not_false, cond_false, cond_true, List.not_mem_nil] at hx)
  · obtain ⟨r, _, hx⟩ := List.mem_flatMap.1 hx
    unfold ev2 at hx
    cases h1 : meantD r o && (decide (rDays r > 0) && !(newV o).mr) with
    | true => rw [h1] at hx; simp only [cond_true, List.mem_singleton] at hx; subst hx; exact ⟨_, _, _, _, _, rfl⟩
    | false => rw [h1] at hx; cases hx
theorem evs_len (rl : List D) (k : List UInt8) (c : Cp) (ol : List D) (h1 : rl.length ≤ 8) (h2 : ol.length ≤ 8388608) (ha : ol.all vC = true) : (evsL rl (.agg [.str k, .slice c ol])).length ≤ 100000000 := by
  obtain ⟨vs, e1, e2⟩ := vs_ex ha
  have hvl : vs.length ≤ 8388608 := by have := congrArg List.length e1; rw [List.length_map] at this; omega
  unfold evsL
  rw [show vsOf (oVs (.agg [.str k, .slice c ol])) = vs from e2, List.length_append]
  have a1 : ∀ vs : List Ver, (vs.flatMap (evV rl (.agg [.str k, .slice c ol]))).length ≤ 8 * vs.length := by
    intro vs
    induction vs with
    | nil => exact Nat.le_refl _
    | cons v r ih =>
      rw [List.flatMap_cons, List.length_append, List.length_cons]
      have : (evV rl (.agg [.str k, .slice c ol]) v).length ≤ 8 := Nat.le_trans (fm_len _ (fun x => ev1_len _ v x) rl) h1
      omega
  have := a1 vs
  have := fm_len (ev2 (.agg [.str k, .slice c ol]) (newV (.agg [.str k, .slice c ol]))) (fun x => ev2_len _ _ x) rl
  omega
def dueR : Option D → AV × Objs
  | some x => (.tuple [.i .u64 (evI x), .b (evI x == 0), .i .i64 0], [])
  | none => (.tuple [.i .u64 0, .b false, .i .i64 0], [])
end Go.Proofs.Ytapaenfafjmljaa.V

/- RulesSoon: what the machine over values makes of the functions: equations, written by program. -/
namespace Go.Proofs.Ytapaenfafjmljaa.V
open Go
set_option maxRecDepth 100000
set_option linter.unusedVariables false
set_option linter.unusedSimpArgs false
variable {mx : Int}
theorem q99 (call : Handle) (lab : Lab) (t : Int) : evF (Γ mx) call lab 30 [.i .i64 t] [] =
  bif decide (t < ((-62135596800))) then (some (.i .i64 (-62135596800), [])) else (bif decide (t > 253402300799) then (some (.i .i64 253402300799, [])) else (some (.i .i64 t, []))) := by kernel_rfl
def Q100 : Handle := runS [⟨30, dat spClamp⟩]
theorem q100 (lab : Lab) (md : Int) (un : Int) (ho : Bool) : evF (Γ mx) Q100 lab 60 [.d 49 (D.agg [D.int .i64 md, D.int .i64 un, D.bool ho])] [] =
  bif md == 0 then (some (.b (un == 0), [])) else (bif md == 1 then (some (.b ((clampZ un) == un), [])) else (bif md == 2 then (some (.b ((clampZ un) == un), [])) else (some (.b false, [])))) := by kernel_rfl
def Q74 : Handle := runS [⟨30, dat spClamp⟩, ⟨60, dat (spD1 49 isLk fun l => .b (lkB l))⟩, ⟨46, dat (spL1s 82 tC fun l => .b (tsB l))⟩]
theorem q74 (lab : Lab) (vid : Int) (vmk : Bool) (vsz : Int) (vbl : Int) (vdg : List D) (vcr : Int) (vmd : Int) (vun : Int) (vho : Bool) (vc : Cp) (vtg : List D) : evF (Γ mx) Q74 lab 56 [.d 52 (D.agg [D.int .u64 vid, D.bool vmk, D.int .i64 vsz, D.int .u64 vbl, D.agg vdg, D.int .i64 vcr, D.agg [D.int .i64 vmd, D.int .i64 vun, D.bool vho], D.slice vc vtg])] [] =
  bif decide (vid < 1) then (some (.b false, [])) else (bif (clampZ vcr) != vcr then (some (.b false, [])) else (bif !vmk then (bif decide (vsz ≥ 0) then (bif decide (vsz ≤ 16384) then (bif decide (vbl ≥ 1) then (bif isLk (D.agg [D.int .i64 vmd, D.int .i64 vun, D.bool vho]) then (bif lkB (D.agg [D.int .i64 vmd, D.int .i64 vun, D.bool vho]) then (bif tC vtg then (some (.b (tsB vtg), [])) else none) else (some (.b false, []))) else none) else (some (.b false, []))) else (some (.b false, []))) else (some (.b false, []))) else (lab (todoAt (Γ mx) 56 6) ⟨[(1, .ptr 0 [] 52), (3, .i .i64 0)], [some (.box 52 (.d 52 (D.agg [D.int .u64 vid, D.bool vmk, D.int .i64 vsz, D.int .u64 vbl, D.agg vdg, D.int .i64 vcr, D.agg [D.int .i64 vmd, D.int .i64 vun, D.bool vho], D.slice vc vtg])))]⟩))) := by kernel_rfl
theorem q74_6a (lab : Lab) (n1 : Int) (n2 : Int) (b3 : Bool) (n4 : Int) (n5 : Int) (y6 : List D) (n7 : Int) (n8 : Int) (n9 : Int) (b10 : Bool) (c11 : Cp) (l12 : List D) : evL (Γ mx) Q74 lab 56 6 ⟨[(1, .ptr 0 [] 52), (3, .i .i64 n1)], [some (.box 52 (.d 52 (D.agg [D.int .u64 n2, D.bool b3, D.int .i64 n4, D.int .u64 n5, D.agg y6, D.int .i64 n7, D.agg [D.int .i64 n8, D.int .i64 n9, D.bool b10], D.slice c11 l12])))]⟩ =
  bif decide (n1 < 32) then (bif decide ((0:Int) ≤ n1) && decide (n1 < (32 : Int)) then (lGet y6 (Int.toNat n1) fun y13 => dInt .u8 y13 fun n14 => bif n14 != 0 then (some (.b false, [])) else (lab (todoAt (Γ mx) 56 6) ⟨[(1, .ptr 0 [] 52), (3, .i .i64 (IntKind.wrap .i64 (n1 + 1)))], [some (.box 52 (.d 52 (D.agg [D.int .u64 n2, D.bool b3, D.int .i64 n4, D.int .u64 n5, D.agg y6, D.int .i64 n7, D.agg [D.int .i64 n8, D.int .i64 n9, D.bool b10], D.slice c11 l12])))]⟩)) else none) else (bif n4 == 0 then (bif n5 == 0 then (bif n8 == 0 then (bif n9 == 0 then (bif !b10 then (some (.b (((l12.length : Int)) == 0), [])) else (some (.b false, []))) else (some (.b false, []))) else (some (.b false, []))) else (some (.b false, []))) else (some (.b false, []))) := by kernel_rfl
def Q47 : Handle := runS [⟨56, dat (spD1 52 vC fun v => .b (vGood v))⟩]
theorem q47 (lab : Lab) (l : List D) : evF (Γ mx) Q47 lab 49 [.sl 52 .any l] [] =
  lab (todoAt (Γ mx) 49 2) ⟨[(0, .sl 52 .any l), (3, .i .i64 0)], []⟩ := by kernel_rfl
theorem q47_2a (lab : Lab) (l1 : List D) (n2 : Int) : evL (Γ mx) Q47 lab 49 2 ⟨[(0, .sl 52 .any l1), (3, .i .i64 n2)], []⟩ =
  bif decide (n2 < ((l1.length : Int))) then (idx l1 n2 fun y3 => dAgg y3 fun y4 => lCons y4 fun a5 r6 => dInt .u64 a5 fun n7 => lCons r6 fun a8 r9 => dBool a8 fun b10 => lCons r9 fun a11 r12 => dInt .i64 a11 fun n13 => lCons r12 fun a14 r15 => dInt .u64 a14 fun n16 => lCons r15 fun a17 r18 => dAgg a17 fun y19 => lCons r18 fun a20 r21 => dInt .i64 a20 fun n22 => lCons r21 fun a23 r24 => dAgg a23 fun y25 => lCons y25 fun a26 r27 => dInt .i64 a26 fun n28 => lCons r27 fun a29 r30 => dInt .i64 a29 fun n31 => lCons r30 fun a32 r33 => dBool a32 fun b34 => lNil r33 (lCons r24 fun a35 r36 => dSlice a35 fun c37 l38 => lNil r36 (bif vC (D.agg [D.int .u64 n7, D.bool b10, D.int .i64 n13, D.int .u64 n16, D.agg y19, D.int .i64 n22, D.agg [D.int .i64 n28, D.int .i64 n31, D.bool b34], D.slice c37 l38]) then (bif !(vGood (D.agg [D.int .u64 n7, D.bool b10, D.int .i64 n13, D.int .u64 n16, D.agg y19, D.int .i64 n22, D.agg [D.int .i64 n28, D.int .i64 n31, D.bool b34], D.slice c37 l38])) then (some (.b false, [])) else (bif decide (n2 > 0) then (idx l1 n2 fun y39 => dAgg y39 fun y40 => lGet y40 0 fun y41 => dInt .u64 y41 fun n42 => idx l1 (IntKind.wrap .i64 (n2 - 1)) fun y43 => dAgg y43 fun y44 => lGet y44 0 fun y45 => dInt .u64 y45 fun n46 => bif decide (n42 ≤ n46) then (some (.b false, [])) else (idx l1 n2 fun y47 => dAgg y47 fun y48 => lGet y48 5 fun y49 => dInt .i64 y49 fun n50 => idx l1 (IntKind.wrap .i64 (n2 - 1)) fun y51 => dAgg y51 fun y52 => lGet y52 5 fun y53 => dInt .i64 y53 fun n54 => bif decide (n50 < n54) then (some (.b false, [])) else (lab (todoAt (Γ mx) 49 2) ⟨[(0, .sl 52 .any l1), (3, .i .i64 (IntKind.wrap .i64 (n2 + 1)))], []⟩))) else (lab (todoAt (Γ mx) 49 2) ⟨[(0, .sl 52 .any l1), (3, .i .i64 (IntKind.wrap .i64 (n2 + 1)))], []⟩))) else none))) else (some (.b true, [])) := by kernel_rfl
def Q46 : Handle := runS [⟨45, dat (sp1 short fun p => .b (cleanV p))⟩]
theorem q46 (lab : Lab) (s : List UInt8) : evF (Γ mx) Q46 lab 48 [.s s] [] =
  bif decide (((List.length s : Int)) ≥ 1) then (bif decide (((List.length s : Int)) ≤ 200) then (bif short s then (some (.b (cleanV s), [])) else none) else (some (.b false, []))) else (some (.b false, [])) := by kernel_rfl
def Q17 : Handle := runS [⟨48, dat (sp1 short fun s => .b (keyB s))⟩, ⟨49, dat (spL1 52 vsC fun l => .b (risB l))⟩]
theorem q17 (lab : Lab) (ok : List UInt8) (oc : Cp) (ov : List D) : evF (Γ mx) Q17 lab 35 [.d 59 (D.agg [D.str ok, D.slice oc ov])] [] =
  bif short ok then (bif keyB ok then (bif decide (((ov.length : Int)) ≥ 1) then (bif vsC ov then (some (.b (risB ov), [])) else none) else (some (.b false, []))) else (some (.b false, []))) else none := by kernel_rfl
def Q16 : Handle := runS [⟨45, dat (sp1 short fun p => .b (cleanV p))⟩, ⟨46, dat (spL1s 82 tC fun l => .b (tsB l))⟩]
theorem q16 (lab : Lab) (l : List D) : evF (Γ mx) Q16 lab 33 [.sl 100 .any l] [] =
  bif decide (((l.length : Int)) > 8) then (some (.b false, [])) else (lab (todoAt (Γ mx) 33 4) ⟨[(0, .sl 100 .any l), (3, .i .i64 0)], []⟩) := by kernel_rfl
theorem q16_4a (lab : Lab) (l1 : List D) (n2 : Int) : evL (Γ mx) Q16 lab 33 4 ⟨[(0, .sl 100 .any l1), (3, .i .i64 n2)], []⟩ =
  bif decide (n2 < ((l1.length : Int))) then (idx l1 n2 fun y3 => dAgg y3 fun y4 => lCons y4 fun a5 r6 => dStr a5 fun s7 => lCons r6 fun a8 r9 => dSlice a8 fun c10 l11 => lCons r9 fun a12 r13 => dInt .i64 a12 fun n14 => lCons r13 fun a15 r16 => dInt .i64 a15 fun n17 => lCons r16 fun a18 r19 => dBool a18 fun b20 => lNil r19 (bif decide (((List.length s7 : Int)) > 200) then (some (.b false, [])) else (bif short s7 then (bif !(cleanV s7) then (some (.b false, [])) else (bif tC l11 then (bif !(tsB l11) then (some (.b false, [])) else (bif decide (n14 < 0) then (some (.b false, [])) else (bif decide (n14 > 36500) then (some (.b false, [])) else (bif decide (n17 < 0) then (some (.b false, [])) else (bif decide (n17 > 36500) then (some (.b false, [])) else (lab (todoAt (Γ mx) 33 4) ⟨[(0, .sl 100 .any l1), (3, .i .i64 (IntKind.wrap .i64 (n2 + 1)))], []⟩)))))) else none)) else none))) else (some (.b true, [])) := by kernel_rfl
theorem q76 (call : Handle) (lab : Lab) (l : List D) (n : List UInt8) : evF (Γ mx) call lab 29 [.sl 82 .any l, .s n] [] =
  lab (todoAt (Γ mx) 29 2) ⟨[(0, .sl 82 .any l), (1, .s n), (6, .i .i64 0)], []⟩ := by kernel_rfl
theorem q76_2a (call : Handle) (lab : Lab) (l1 : List D) (s2 : List UInt8) (n3 : Int) : evL (Γ mx) call lab 29 2 ⟨[(0, .sl 82 .any l1), (1, .s s2), (6, .i .i64 n3)], []⟩ =
  bif decide (n3 < ((l1.length : Int))) then (idx l1 n3 fun y4 => dAgg y4 fun y5 => lGet y5 0 fun y6 => dStr y6 fun s7 => bif s7 == s2 then (idx l1 n3 fun y8 => dAgg y8 fun y9 => lGet y9 1 fun y10 => dStr y10 fun s11 => some (.tuple [.s s11, .b true], [])) else (lab (todoAt (Γ mx) 29 2) ⟨[(0, .sl 82 .any l1), (1, .s s2), (6, .i .i64 (IntKind.wrap .i64 (n3 + 1)))], []⟩)) else (some (.tuple [.s ([] : List UInt8), .b false], [])) := by kernel_rfl
def Q49 : Handle := runS [⟨29, dat (spLS 82 (fun l _ => tC l) fun l n => .tuple [.s (getS l n), .b (getB l n)])⟩]
theorem q49 (lab : Lab) (a : List D) (l : List D) : evF (Γ mx) Q49 lab 17 [.sl 82 .any a, .sl 82 .any l] [] =
  lab (todoAt (Γ mx) 17 2) ⟨[(0, .sl 82 .any a), (1, .sl 82 .any l), (5, .i .i64 0)], []⟩ := by kernel_rfl
theorem q49_2a (lab : Lab) (l1 : List D) (l2 : List D) (n3 : Int) : evL (Γ mx) Q49 lab 17 2 ⟨[(0, .sl 82 .any l1), (1, .sl 82 .any l2), (5, .i .i64 n3)], []⟩ =
  bif decide (n3 < ((l1.length : Int))) then (idx l1 n3 fun y4 => dAgg y4 fun y5 => lGet y5 0 fun y6 => dStr y6 fun s7 => bif tC l2 then (bif !(getB l2 s7) then (some (.b false, [])) else (idx l1 n3 fun y8 => dAgg y8 fun y9 => lGet y9 1 fun y10 => dStr y10 fun s11 => bif !((getS l2 s7) == s11) then (some (.b false, [])) else (lab (todoAt (Γ mx) 17 2) ⟨[(0, .sl 82 .any l1), (1, .sl 82 .any l2), (5, .i .i64 (IntKind.wrap .i64 (n3 + 1)))], []⟩))) else none) else (some (.b true, [])) := by kernel_rfl
theorem q36 (call : Handle) (lab : Lab) (s : List UInt8) (p : List UInt8) : evF (Γ mx) call lab 23 [.s s, .s p] [] =
  bif decide (((List.length s : Int)) ≥ ((List.length p : Int))) then (bif decide ((0:Int) ≤ ((List.length p : Int))) && decide (((List.length p : Int)) ≤ (List.length s : Int)) then (some (.b ((List.take ((Int.toNat ((List.length p : Int))) - 0) (List.drop 0 s)) == p), [])) else none) else (some (.b false, [])) := by kernel_rfl
def Q19 : Handle := runS [⟨35, dat (spD1 59 oC fun o => .b (oSnd o))⟩, ⟨23, dat (sp2 (fun _ _ => true) fun a b => .b (hpB a b))⟩, ⟨17, dat (spLL 82 82 (fun a b => tC a && tC b) fun a b => .b (withinB a b))⟩]
end Go.Proofs.Ytapaenfafjmljaa.V

/- RulesSoon: contracts of the document's functions: locks, versions, objects, rules, tags. -/
namespace Go.Proofs.Ytapaenfafjmljaa.V
open Go
set_option maxRecDepth 100000
set_option linter.unusedVariables false
set_option linter.unusedSimpArgs false
variable {mx : Int}
theorem k99 (n : Int) : RetX (Γ mx) 30 [.i .i64 n] [] (.i .i64 (clampZ n)) [] := by
  refine ret_goes (Γ := Γ mx) hP hZ none_ok (by kernel_rfl) ⟨0, ?_⟩
  rw [q99]
  unfold clampZ
  by_cases h : n < -62135596800
  · rw [decide_eq_true h, decide_eq_false (show ¬ (253402300799 : Int) < n by omega)]
    show some (AV.i .i64 (-62135596800), []) = some (AV.i .i64 (bif decide ((-62135596800 : Int) < n) then n else (-62135596800)), [])
    rw [decide_eq_false (show ¬ (-62135596800 : Int) < n by omega)]; rfl
  · rw [decide_eq_false h]
    by_cases h2 : n > 253402300799
    · rw [decide_eq_true h2]; rfl
    · rw [decide_eq_false h2]
      show some (AV.i .i64 n, []) = some (AV.i .i64 (bif decide ((-62135596800 : Int) < n) then n else (-62135596800)), [])
      by_cases h3 : -62135596800 < n
      · rw [decide_eq_true h3]; rfl
      · have : n = -62135596800 := by omega
        subst this; rfl
theorem kh100_ok : CallsOK (Γ mx) Q100 := specs_ok (.cons (spClamp_ok k99) .nil)
theorem beq_swap (a b : Int) : (a == b) = (b == a) := by
  by_cases h : a = b
  · rw [h]
  · rw [beq_eq_false_iff_ne.2 h, beq_eq_false_iff_ne.2 (Ne.symm h)]
theorem k100 (d : D) (h : isLk d = true) : RetX (Γ mx) 60 [.d 49 d] [] (.b (lkB d)) [] := by
  obtain ⟨a, b, c, rfl⟩ := isLk_ex h
  refine ret_goes (Γ := Γ mx) hP hZ kh100_ok (by kernel_rfl) ⟨0, ?_⟩
  rw [q100, lkB, beq_swap (clampZ b) b]
  cases a == 0 <;> cases a == 1 <;> cases a == 2 <;> rfl
theorem k44 (p : List UInt8) (h : short p = true) : RetX (Γ mx) 45 [.s p] [] (.b (cleanV p)) [] := c55 p h
theorem k45 (l : List D) (h : tC l = true) : RetX (Γ mx) 46 [.sl 82 .any l] [] (.b (tsB l)) [] := c27 l h
theorem kh74_ok : CallsOK (Γ mx) Q74 := specs_ok (.cons (spClamp_ok k99) (.cons (spD1_ok k100) (.cons (spL1s_ok k45) .nil)))
def isZ8 : D → Bool
  | .int _ n => n == 0
  | _ => false
theorem isU8_ex {d : D} (h : isU8 d = true) : ∃ n, d = .int .u8 n := by
  unfold isU8 at h
  split at h
  · exact ⟨_, rfl⟩
  · exact absurd h (by simp)
theorem eqDs_rep : ∀ l : List D, l.all isU8 = true → eqDs l (List.replicate l.length (.int .u8 0)) = l.all isZ8
  | [], _ => rfl
  | d :: r, h => by
    have h : isU8 d = true ∧ r.all isU8 = true := by simpa using h
    obtain ⟨n, rfl⟩ := isU8_ex h.1
    rw [List.length_cons, List.replicate_succ, List.all_cons, ← eqDs_rep r h.2]; rfl
theorem dg_eq {l : List D} (h : dgC l = true) : eqD (.agg l) dg0 = l.all isZ8 := by
  unfold dgC at h
  simp only [Bool.and_eq_true, decide_eq_true_eq] at h
  rw [← eqDs_rep l h.2, h.1]; rfl
def tail74 (v : Ver) : Bool := v.sz == 0 && (v.bl == 0 && (v.md == 0 && (v.un == 0 && (!v.ho && ((v.tg.length : Int) == 0)))))
theorem g74 (v : Ver) (hl : v.dg.length = 32) (ha : v.dg.all isU8 = true) : ∀ (rest pre : List D) (i : Int), v.dg = pre ++ rest → i = (pre.length : Int) →
    Goes (Γ mx) Q74 56 6 ⟨[(1, .ptr 0 [] 52), (3, .i .i64 i)], [some (.box 52 (.d 52 (vD v)))]⟩ (.b (rest.all isZ8 && tail74 v), [])
  | [], pre, i, he, hi => by
    subst hi
    have h32 : pre.length = 32 := by rw [← hl, he]; simp
    refine Goes.step ⟨0, (q74_6a ..).trans ?_⟩
    rw [decide_eq_false (show ¬ (pre.length : Int) < 32 by omega), cond_false]
    show _ = some (AV.b (v.sz == 0 && (v.bl == 0 && (v.md == 0 && (v.un == 0 && (!v.ho && ((v.tg.length : Int) == 0)))))), [])
    cases v.sz == 0 <;> cases v.bl == 0 <;> cases v.md == 0 <;> cases v.un == 0 <;> cases v.ho <;> rfl
  | x :: r, pre, i, he, hi => by
    subst hi
    have h32 : pre.length + (r.length + 1) = 32 := by rw [← hl, he]; simp
    obtain ⟨m, rfl⟩ := isU8_ex (List.all_eq_true.1 ha x (by rw [he]; simp))
    have hw : IntKind.wrap .i64 ((pre.length : Int) + 1) = (pre.length : Int) + 1 := wrapI (by omega) (by omega)
    obtain ⟨n, hn⟩ := g74 v hl ha r (pre ++ [.int .u8 m]) ((pre.length : Int) + 1) (by rw [he]; simp) (by simp)
    have hid : ∀ {R : Type} (K : D → Option R), lGet v.dg (Int.toNat (pre.length : Int)) K = K (.int .u8 m) := fun K => by rw [he, Int.toNat_natCast]; unfold lGet; simp
    refine Goes.step ⟨n, (q74_6a ..).trans ?_⟩
    rw [decide_eq_true (show (pre.length : Int) < 32 by omega), decide_eq_true (show (0 : Int) ≤ (pre.length : Int) by omega), cond_true, hid, hw]
    show (bif m != 0 then _ else _) = some (AV.b (((m == 0) && r.all isZ8) && tail74 v), [])
    by_cases hm : m = 0
    · subst hm; exact hn
    · rw [show (m != 0) = true by simpa using hm, show (m == 0) = false by simpa using hm]; rfl
theorem k74 (d : D) (h : vC d = true) : RetX (Γ mx) 56 [.d 52 d] [] (.b (vGood d)) [] := by
  obtain ⟨v, rfl, ht⟩ := vC_ex h
  have hd := vC_dg h
  have hi := vC_id h
  have hd2 := hd
  unfold dgC at hd2
  simp only [Bool.and_eq_true, decide_eq_true_eq] at hd2
  obtain ⟨n, hn⟩ := g74 (mx := mx) v hd2.1 hd2.2 v.dg [] 0 rfl rfl
  refine ret_goes (Γ := Γ mx) hP hZ kh74_ok (by kernel_rfl) ⟨n, ?_⟩
  refine (q74 _ v.id v.mr v.sz v.bl v.dg v.cr v.md v.un v.ho v.c v.tg).trans ?_
  show _ = some (AV.b (goodV v), [])
  have e0 : decide (v.id < 1) = (v.id == 0) := by
    by_cases h0 : v.id = 0
    · rw [h0]; rfl
    · rw [decide_eq_false (by omega), beq_eq_false_iff_ne.2 h0]
  have e1 : (clampZ v.cr != v.cr) = (v.cr != clampZ v.cr) := by rw [bne, beq_swap]; rfl
  have e2 : eqD (lkV v) lk0 = (v.md == 0 && (v.un == 0 && (!v.ho && true))) := by
    show ((v.md == 0) && ((v.un == 0) && ((v.ho == false) && true))) = _
    cases v.ho <;> rfl
  rw [ht, goodV, e0, e1, e2, dg_eq hd, show decide (v.bl ≥ 1) = decide (v.bl > 0) from decide_eq_decide.2 (by omega)]
  cases v.id == 0 with
  | true => rfl
  | false =>
    cases v.cr != clampZ v.cr with
    | true => rfl
    | false =>
      cases hm : v.mr with
      | true =>
        have ev : vD v = D.agg [D.int .u64 v.id, D.bool true, D.int .i64 v.sz, D.int .u64 v.bl, D.agg v.dg, D.int .i64 v.cr, D.agg [D.int .i64 v.md, D.int .i64 v.un, D.bool v.ho], D.slice v.c v.tg] := by unfold vD; rw [hm]
        rw [ev] at hn
        simp only [cond_false, cond_true, Bool.not_true]
        refine Eq.trans ?_ (hn.trans ?_)
        · rfl
        · unfold tail74
          cases v.dg.all isZ8 <;> cases v.sz == 0 <;> cases v.bl == 0 <;> cases v.md == 0 <;> cases v.un == 0 <;> cases v.ho <;> rfl
      | false =>
        simp only [cond_false, cond_true, Bool.not_false]
        rw [show lkB (D.agg [D.int .i64 v.md, D.int .i64 v.un, D.bool v.ho]) = lkB (lkV v) from rfl]
        cases decide (v.sz ≥ 0) <;> cases decide (v.sz ≤ 16384) <;> cases decide (v.bl > 0) <;> cases lkB (lkV v) <;> rfl
theorem kh47_ok : CallsOK (Γ mx) Q47 := specs_ok (.cons (spD1_ok k74) .nil)
theorem kg47 (l : List D) (hl : l.length ≤ 8388608) (ha : l.all vC = true) : ∀ (rest : List Ver) (pre : List D) (i : Int), l = pre ++ rest.map vD → i = (pre.length : Int) →
    Goes (Γ mx) Q47 49 2 ⟨[(0, .sl 52 .any l), (3, .i .i64 i)], []⟩ (.b (ris1 (prevO pre) rest), [])
  | [], pre, i, he, hi => by
    subst hi
    refine Goes.step ⟨0, ?_⟩
    rw [q47_2a, decide_eq_false (show ¬ (pre.length : Int) < (l.length : Int) by rw [he]; simp)]
    cases prevO pre <;> rfl
  | v :: r, pre, i, he, hi => by
    subst hi
    have hlen : l.length = pre.length + (r.length + 1) := by rw [he]; simp
    have hs : vC (vD v) = true := List.all_eq_true.1 ha _ (by rw [he]; simp)
    have hid : ∀ {R : Type} (K : D → Option R), idx l (pre.length : Int) K = K (vD v) := fun K => by rw [he]; exact idx_mid pre (r.map vD) _ K
    have hw : IntKind.wrap .i64 ((pre.length : Int) + 1) = (pre.length : Int) + 1 := wrapI (by omega) (by omega)
    obtain ⟨n, hn⟩ := kg47 l hl ha r (pre ++ [vD v]) ((pre.length : Int) + 1) (by rw [he]; simp) (by simp)
    rw [prevO_app] at hn
    refine Goes.step ⟨n, ?_⟩
    rw [q47_2a, decide_eq_true (show (pre.length : Int) < (l.length : Int) by omega), cond_true, hid, hw]
    show (bif vC (vD v) then (bif !vGood (vD v) then _ else _) else _) = _
    rw [hs, cond_true, show vGood (vD v) = goodV v from rfl]
    rcases List.eq_nil_or_concat pre with rfl | ⟨q, x, rfl⟩
    · show _ = some (AV.b (goodV v && ris1 (some v) r), [])
      cases goodV v with
      | false => rfl
      | true => exact hn
    · rw [List.concat_eq_append] at *
      have hsp : vC x = true := List.all_eq_true.1 ha x (by rw [he]; simp)
      obtain ⟨p, rfl, _⟩ := vC_ex hsp
      rw [prevO_app]
      have hw2 : IntKind.wrap .i64 (((q ++ [vD p]).length : Int) - 1) = (q.length : Int) := by rw [wrapI (by omega) (by simp at hlen ⊢; omega)]; simp
      have hid2 : ∀ {R : Type} (K : D → Option R), idx l (q.length : Int) K = K (vD p) := fun K => by rw [he, List.append_assoc]; exact idx_mid q _ _ K
      rw [decide_eq_true (show (((q ++ [vD p]).length : Int)) > 0 by simp <;> omega), cond_true, hid, hw2]
      show _ = some (AV.b (goodV v && (behV v p && ris1 (some v) r)), [])
      cases goodV v with
      | false => rfl
      | true =>
        show idx l (q.length : Int) (fun y43 => _) = _
        rw [hid2]
        show (bif decide (v.id ≤ p.id) then some (AV.b false, []) else idx l ((q ++ [vD p]).length : Int) fun y47 => _) = _
        rw [hid]
        show (bif decide (v.id ≤ p.id) then some (AV.b false, []) else idx l (q.length : Int) fun y51 => _) = _
        rw [hid2]
        show (bif decide (v.id ≤ p.id) then some (AV.b false, []) else bif decide (v.cr < p.cr) then some (AV.b false, []) else _) = _
        unfold behV
        by_cases h1 : v.id ≤ p.id
        · rw [decide_eq_true h1, decide_eq_false (show ¬ v.id > p.id by omega)]; rfl
        · rw [decide_eq_false h1, decide_eq_true (show v.id > p.id by omega)]
          by_cases h2 : v.cr < p.cr
          · rw [decide_eq_true h2, decide_eq_false (show ¬ v.cr ≥ p.cr by omega)]; rfl
          · rw [decide_eq_false h2, decide_eq_true (show v.cr ≥ p.cr by omega)]; exact hn
theorem k47 (l : List D) (h : vsC l = true) : RetX (Γ mx) 49 [.sl 52 .any l] [] (.b (risB l)) [] := by
  obtain ⟨h1, h2⟩ := vsC_eq h
  obtain ⟨vs, e1, e2⟩ := vs_ex h2
  obtain ⟨n, hn⟩ := kg47 (mx := mx) l h1 h2 vs [] 0 e1 rfl
  refine ret_goes (Γ := Γ mx) hP hZ kh47_ok (by kernel_rfl) ⟨n, ?_⟩
  rw [q47, risB, e2]; exact hn
theorem kh46_ok : CallsOK (Γ mx) Q46 := specs_ok (.cons (sp1_ok k44) .nil)
theorem k46 (s : List UInt8) (h : short s = true) : RetX (Γ mx) 48 [.s s] [] (.b (keyB s)) [] := by
  refine ret_goes (Γ := Γ mx) hP hZ kh46_ok (by kernel_rfl) ⟨0, ?_⟩
  have e : decide ((s.length : Int) ≥ 1) = !(s == []) := by
    cases s with
    | nil => rfl
    | cons c r => rw [decide_eq_true (by simp only [List.length_cons]; omega)]; rfl
  rw [q46, keyB, h, show decide ((s.length : Int) ≤ 200) = decide (s.length ≤ 200) from i64_le _ 200, e]
  cases s == [] <;> cases decide (s.length ≤ 200) <;> rfl
theorem kh17_ok : CallsOK (Γ mx) Q17 := specs_ok (.cons (sp1_ok k46) (.cons (spL1_ok k47) .nil))
theorem k17 (o : D) (h : oC o = true) : RetX (Γ mx) 35 [.d 59 o] [] (.b (oSnd o)) [] := by
  obtain ⟨k, c, l, rfl, h1, h2⟩ := oC_ex h
  refine ret_goes (Γ := Γ mx) hP hZ kh17_ok (by kernel_rfl) ⟨0, ?_⟩
  rw [q17, h1, h2, show decide ((l.length : Int) ≥ 1) = decide (0 < l.length) from decide_eq_decide.2 (by omega)]
  show _ = some (AV.b (keyB k && (decide (0 < l.length) && risB l)), [])
  cases keyB k <;> cases decide (0 < l.length) <;> rfl
theorem kh16_ok : CallsOK (Γ mx) Q16 := specs_ok (.cons (sp1_ok k44) (.cons (spL1s_ok k45) .nil))
theorem lt_ge (a b : Int) : decide (a < b) = !decide (a ≥ b) := by
  by_cases h : a < b
  · rw [decide_eq_true h, decide_eq_false (by omega)]; rfl
  · rw [decide_eq_false h, decide_eq_true (by omega)]; rfl
theorem gt_le (a b : Int) : decide (a > b) = !decide (a ≤ b) := by
  by_cases h : a > b
  · rw [decide_eq_true h, decide_eq_false (by omega)]; rfl
  · rw [decide_eq_false h, decide_eq_true (by omega)]; rfl
theorem kg16 (l : List D) (hl : l.length ≤ 8388608) (ha : l.all rC = true) : ∀ (rest pre : List D) (i : Int), l = pre ++ rest → i = (pre.length : Int) →
    Goes (Γ mx) Q16 33 4 ⟨[(0, .sl 100 .any l), (3, .i .i64 i)], []⟩ (.b (rest.all rGood), [])
  | [], pre, i, he, hi => by
    subst hi
    refine Goes.step ⟨0, ?_⟩
    rw [q16_4a, decide_eq_false (show ¬ (pre.length : Int) < (l.length : Int) by rw [he]; simp)]
    rfl
  | x :: r, pre, i, he, hi => by
    subst hi
    have hlen : l.length = pre.length + (r.length + 1) := by rw [he]; simp
    have hs : rC x = true := List.all_eq_true.1 ha _ (by rw [he]; simp)
    obtain ⟨p, c, t, a, b, m, rfl, h1, h2⟩ := rC_ex hs
    have hid : ∀ {R : Type} (K : D → Option R), idx l (pre.length : Int) K = K (D.agg [.str p, .slice c t, .int .i64 a, .int .i64 b, .bool m]) := fun K => by rw [he]; exact idx_mid pre r _ K
    have hw : IntKind.wrap .i64 ((pre.length : Int) + 1) = (pre.length : Int) + 1 := wrapI (by omega) (by omega)
    obtain ⟨n, hn⟩ := kg16 l hl ha r (pre ++ [D.agg [.str p, .slice c t, .int .i64 a, .int .i64 b, .bool m]]) ((pre.length : Int) + 1) (by rw [he]; simp) (by simp)
    refine Goes.step ⟨n, ?_⟩
    rw [q16_4a, decide_eq_true (show (pre.length : Int) < (l.length : Int) by omega), cond_true, hid, hw]
    show (bif decide ((p.length : Int) > 200) then _ else (bif short p then (bif !cleanV p then _ else (bif tC t then (bif !tsB t then _ else (bif decide (a < 0) then _ else (bif decide (a > 36500) then _ else (bif decide (b < 0) then _ else (bif decide (b > 36500) then _ else _))))) else _)) else _)) = some (AV.b ((decide (p.length ≤ 200) && (cleanV p && (tsB t && (decide (a ≥ 0) && (decide (a ≤ 36500) && (decide (b ≥ 0) && decide (b ≤ 36500))))))) && r.all rGood), [])
    rw [h1, h2, show decide ((p.length : Int) > 200) = !decide (p.length ≤ 200) from i64_gt _ 200, lt_ge a 0,
      gt_le a 36500, lt_ge b 0,
      gt_le b 36500]
    cases decide (p.length ≤ 200) with
    | false => rfl
    | true =>
      cases cleanV p with
      | false => rfl
      | true =>
        cases tsB t with
        | false => rfl
        | true => cases decide (a ≥ 0) <;> cases decide (a ≤ 36500) <;> cases decide (b ≥ 0) <;> cases decide (b ≤ 36500) <;> first | rfl | exact hn
theorem k16 (l : List D) (h : rsC l = true) : RetX (Γ mx) 33 [.sl 100 .any l] [] (.b (rsB l)) [] := by
  obtain ⟨h1, h2⟩ := rsC_eq h
  obtain ⟨n, hn⟩ := kg16 (mx := mx) l h1 h2 l [] 0 rfl rfl
  refine ret_goes (Γ := Γ mx) hP hZ kh16_ok (by kernel_rfl) ⟨n, ?_⟩
  rw [q16, rsB, show decide ((l.length : Int) > 8) = !decide (l.length ≤ 8) from i64_gt _ 8]
  cases decide (l.length ≤ 8) with
  | false => rfl
  | true => exact hn
theorem kg76 (l : List D) (s : List UInt8) (hl : l.length ≤ 8388608) (ha : l.all isT = true) : ∀ (rest pre : List D) (i : Int), l = pre ++ rest → i = (pre.length : Int) →
    Goes (Γ mx) (runS []) 29 2 ⟨[(0, .sl 82 .any l), (1, .s s), (6, .i .i64 i)], []⟩ (.tuple [.s (getS rest s), .b (getB rest s)], [])
  | [], pre, i, he, hi => by
    subst hi
    refine Goes.step ⟨0, ?_⟩
    rw [q76_2a, decide_eq_false (show ¬ (pre.length : Int) < (l.length : Int) by rw [he]; simp)]; rfl
  | t :: r, pre, i, he, hi => by
    subst hi
    have hlen : l.length = pre.length + (r.length + 1) := by rw [he]; simp
    obtain ⟨a, b, rfl⟩ := isT_ex (List.all_eq_true.1 ha t (by rw [he]; simp))
    have hid : ∀ {R : Type} (K : D → Option R), idx l (pre.length : Int) K = K (.agg [.str a, .str b]) := fun K => by rw [he]; exact idx_mid pre r _ K
    have hw : IntKind.wrap .i64 ((pre.length : Int) + 1) = (pre.length : Int) + 1 := wrapI (by omega) (by omega)
    obtain ⟨n, hn⟩ := kg76 l s hl ha r (pre ++ [.agg [.str a, .str b]]) ((pre.length : Int) + 1) (by rw [he]; simp) (by simp)
    have e : getO (.agg [.str a, .str b] :: r) s = bif a == s then some (.agg [.str a, .str b]) else getO r s := by
      unfold getO
      rw [List.find?_cons, show eqN s (.agg [.str a, .str b]) = (a == s) from rfl]
      cases (a == s) <;> rfl
    have e1 : getS (.agg [.str a, .str b] :: r) s = bif a == s then b else getS r s := by
      unfold getS; rw [e]; cases (a == s) <;> rfl
    have e2 : getB (.agg [.str a, .str b] :: r) s = bif a == s then true else getB r s := by
      unfold getB; rw [e]; cases (a == s) <;> rfl
    refine Goes.step ⟨n, ?_⟩
    rw [q76_2a, decide_eq_true (show (pre.length : Int) < (l.length : Int) by omega), cond_true, hid, e1, e2, hw]
    show (bif a == s then idx l (pre.length : Int) (fun y8 => _) else _) = _
    rw [hid]
    cases (a == s) with
    | true => rfl
    | false => exact hn
theorem k76 (l : List D) (s : List UInt8) (h : tC l = true) : RetX (Γ mx) 29 [.sl 82 .any l, .s s] [] (.tuple [.s (getS l s), .b (getB l s)]) [] := by
  obtain ⟨h1, h2⟩ := tC_eq h
  obtain ⟨n, hn⟩ := kg76 (mx := mx) l s h1 (sh_all h2) l [] 0 rfl rfl
  exact ret_goes (Γ := Γ mx) hP hZ none_ok (by kernel_rfl) ⟨n, by rw [q76]; exact hn⟩
theorem kh49_ok : CallsOK (Γ mx) Q49 := specs_ok (.cons (spLS_ok k76) .nil)
theorem kg49 (l m : List D) (hl : l.length ≤ 8388608) (ha : l.all isT = true) (hm : tC m = true) : ∀ (rest pre : List D) (i : Int), l = pre ++ rest → i = (pre.length : Int) →
    Goes (Γ mx) Q49 17 2 ⟨[(0, .sl 82 .any l), (1, .sl 82 .any m), (5, .i .i64 i)], []⟩ (.b (withinB rest m), [])
  | [], pre, i, he, hi => by
    subst hi
    refine Goes.step ⟨0, ?_⟩
    rw [q49_2a, decide_eq_false (show ¬ (pre.length : Int) < (l.length : Int) by rw [he]; simp)]; rfl
  | t :: r, pre, i, he, hi => by
    subst hi
    have hlen : l.length = pre.length + (r.length + 1) := by rw [he]; simp
    obtain ⟨a, b, rfl⟩ := isT_ex (List.all_eq_true.1 ha t (by rw [he]; simp))
    have hid : ∀ {R : Type} (K : D → Option R), idx l (pre.length : Int) K = K (.agg [.str a, .str b]) := fun K => by rw [he]; exact idx_mid pre r _ K
    have hw : IntKind.wrap .i64 ((pre.length : Int) + 1) = (pre.length : Int) + 1 := wrapI (by omega) (by omega)
    obtain ⟨n, hn⟩ := kg49 l m hl ha hm r (pre ++ [.agg [.str a, .str b]]) ((pre.length : Int) + 1) (by rw [he]; simp) (by simp)
    have e : withinB (.agg [.str a, .str b] :: r) m = ((getB m a && (getS m a == b)) && withinB r m) := rfl
    refine Goes.step ⟨n, ?_⟩
    rw [q49_2a, decide_eq_true (show (pre.length : Int) < (l.length : Int) by omega), cond_true, hid, e, hw]
    show (bif tC m then (bif !getB m a then _ else idx l (pre.length : Int) (fun y8 => _)) else _) = _
    rw [hm, hid, cond_true]
    cases getB m a with
    | false => rfl
    | true =>
      show (bif !(getS m a == b) then _ else _) = _
      cases (getS m a == b) with
      | false => rfl
      | true => exact hn
theorem k49 (a b : List D) (h : (tC a && tC b) = true) : RetX (Γ mx) 17 [.sl 82 .any a, .sl 82 .any b] [] (.b (withinB a b)) [] := by
  simp only [Bool.and_eq_true] at h
  obtain ⟨h1, h2⟩ := tC_eq h.1
  obtain ⟨n, hn⟩ := kg49 (mx := mx) a b h1 (sh_all h2) h.2 a [] 0 rfl rfl
  exact ret_goes (Γ := Γ mx) hP hZ kh49_ok (by kernel_rfl) ⟨n, by rw [q49]; exact hn⟩
theorem k36 (a b : List UInt8) (_ : true = true) : RetX (Γ mx) 23 [.s a, .s b] [] (.b (hpB a b)) [] := by
  refine ret_goes (Γ := Γ mx) hP hZ none_ok (by kernel_rfl) ⟨0, ?_⟩
  rw [q36, hpB, show decide ((a.length : Int) ≥ (b.length : Int)) = decide (b.length ≤ a.length) from decide_eq_decide.2 (by omega), decide_eq_true (show (0 : Int) ≤ (b.length : Int) by omega)]
  cases decide (b.length ≤ a.length) <;> rfl
theorem kh19_ok : CallsOK (Γ mx) Q19 := specs_ok (.cons (spD1_ok k17) (.cons (sp2_ok k36) (.cons (spLL_ok k49) .nil)))
end Go.Proofs.Ytapaenfafjmljaa.V

/- RulesSoon: contracts of erased, Due, Soon. -/
namespace Go.Proofs.Ytapaenfafjmljaa.V
open Go
set_option maxRecDepth 100000
set_option linter.unusedVariables false
set_option linter.unusedSimpArgs false
section
variable {Γ : Ctx} {g : FuncId}
end
variable {mx : Int}
def rdR (o : Option Ver) (z : Bool) : AV × Objs := match o with | some v => (.tuple [.i .u64 v.id, .b false, .i .i64 0], []) | none => (.tuple [.i .u64 0, .b z, .i .i64 0], [])
/-! ### soon -/
def snR (p : Int × Bool) : AV × Objs := (.tuple [.i .i64 p.1, .b p.2, .i .i64 0], [])
end Go.Proofs.Ytapaenfafjmljaa.V

/- That a function ends with some truth value, and what follows of it if that is true: without saying which one. -/
namespace Go.Proofs.Ytapaenfafjmljaa.V
open Go
set_option linter.unusedVariables false
set_option linter.unusedSimpArgs false
/-- some number of rounds ends with a truth value; if it is true, P -/
def EXP (P : Prop) (R : Nat → Option (AV × Objs)) : Prop := ∃ n b, R n = some (.b b, []) ∧ (b = true → P)
def GoesP (Γ : Ctx) (H : Handle) (f : FuncId) (key : Nat) (st : St) (P : Prop) : Prop := ∃ b, Goes Γ H f key st (.b b, []) ∧ (b = true → P)
variable {P : Prop} {Γ : Ctx} {H : Handle} {f : FuncId} {key : Nat} {st : St}
theorem GoesP.step (h : EXP P fun n => evL Γ H (L Γ H f n) f key st) : GoesP Γ H f key st P := by
  obtain ⟨n, b, h1, h2⟩ := h
  exact ⟨b, Goes.step ⟨n, h1⟩, h2⟩
theorem xp_of {R R' : Nat → Option (AV × Objs)} (h : ∀ n, R n = R' n) (h' : EXP P R') : EXP P R := by
  obtain ⟨n, b, h1, h2⟩ := h'
  exact ⟨n, b, (h n).trans h1, h2⟩
theorem xp_lab (h : GoesP Γ H f key st P) : EXP P fun n => L Γ H f n (todoAt Γ f key) st := by
  obtain ⟨b, ⟨n, h1⟩, h2⟩ := h
  exact ⟨n, b, h1, h2⟩
theorem xp_false : EXP P fun _ => some (.b false, []) := ⟨0, false, rfl, fun h => absurd h (by simp)⟩
theorem xp_some (b : Bool) (h : b = true → P) : EXP P fun _ => some (.b b, []) := ⟨0, b, rfl, h⟩
theorem xp_bif {c : Bool} {X Y : Nat → Option (AV × Objs)} (h1 : c = true → EXP P X) (h2 : c = false → EXP P Y) : EXP P fun n => bif c then X n else Y n := by
  cases c with
  | true => exact h1 rfl
  | false => exact h2 rfl
theorem xp_must {c : Bool} {X : Nat → Option (AV × Objs)} (hc : c = true) (h1 : EXP P X) : EXP P fun n => bif c then X n else none := by
  subst hc; exact h1
/-- a refusal, or on -/
theorem xp_no {c : Bool} {X : Nat → Option (AV × Objs)} (h1 : c = false → EXP P X) : EXP P fun n => bif c then some (.b false, []) else X n := xp_bif (fun _ => xp_false) h1
theorem xp_idx {α : Type} {l : List α} {i : Int} {y : α} {K : Nat → α → Option (AV × Objs)} (h0 : 0 ≤ i) (h : l[i.toNat]? = some y) (h' : EXP P fun n => K n y) : EXP P fun n => idx l i (K n) := by
  obtain ⟨n, b, h1, h2⟩ := h'
  refine ⟨n, b, ?_, h2⟩
  show idx l i (K n) = _
  unfold idx lGet
  rw [decide_eq_true h0, cond_true, h]
  exact h1
theorem xp_get {α : Type} {l : List α} {i : Nat} {y : α} {K : Nat → α → Option (AV × Objs)} (h : l[i]? = some y) (h' : EXP P fun n => K n y) : EXP P fun n => lGet l i (K n) := by
  obtain ⟨n, b, h1, h2⟩ := h'
  refine ⟨n, b, ?_, h2⟩
  show lGet l i (K n) = _
  unfold lGet
  rw [h]
  exact h1
theorem xp_agg {ys : List D} {K : Nat → List D → Option (AV × Objs)} (h : EXP P fun n => K n ys) : EXP P fun n => dAgg (.agg ys) (K n) := h
theorem xp_lc {α : Type} {x : α} {r : List α} {K : Nat → α → List α → Option (AV × Objs)} (h : EXP P fun n => K n x r) : EXP P fun n => lCons (x :: r) (K n) := h
theorem xp_ln {α : Type} {K : Nat → Option (AV × Objs)} (h : EXP P fun n => K n) : EXP P fun n => lNil ([] : List α) (K n) := h
theorem xp_i {x : Int} {K : Nat → Int → Option (AV × Objs)} (h : EXP P fun n => K n x) : EXP P fun n => dInt .i64 (.int .i64 x) (K n) := h
theorem xp_u {x : Int} {K : Nat → Int → Option (AV × Objs)} (h : EXP P fun n => K n x) : EXP P fun n => dInt .u64 (.int .u64 x) (K n) := h
theorem xp_s {x : List UInt8} {K : Nat → List UInt8 → Option (AV × Objs)} (h : EXP P fun n => K n x) : EXP P fun n => dStr (.str x) (K n) := h
theorem xp_b {x : Bool} {K : Nat → Bool → Option (AV × Objs)} (h : EXP P fun n => K n x) : EXP P fun n => dBool (.bool x) (K n) := h
theorem xp_sl {c : Cp} {x : List D} {K : Nat → Cp → List D → Option (AV × Objs)} (h : EXP P fun n => K n c x) : EXP P fun n => dSlice (.slice c x) (K n) := h
theorem get_mid {α : Type} (pre : List α) (x : α) (r : List α) : (pre ++ x :: r)[((pre.length : Nat) : Int).toNat]? = some x := by
  rw [Int.toNat_natCast, List.getElem?_append_right (Nat.le_refl _), Nat.sub_self]; rfl
theorem get_last {α : Type} (pre : List α) (p : α) (r : List α) {i : Int} (hi : i = ((pre ++ [p]).length : Int) - 1) : ((pre ++ [p]) ++ r)[i.toNat]? = some p := by
  subst hi
  rw [List.length_append, List.length_singleton, show (((pre.length + 1 : Nat) : Int) - 1).toNat = pre.length by omega, List.append_assoc, List.singleton_append, List.getElem?_append_right (Nat.le_refl _), Nat.sub_self]; rfl
theorem get_some {α : Type} {l : List α} {i : Int} (h0 : 0 ≤ i) (h : i < (l.length : Int)) : ∃ y, l[i.toNat]? = some y ∧ y ∈ l := by
  have : i.toNat < l.length := by omega
  exact ⟨l[i.toNat], List.getElem?_eq_getElem this, List.getElem_mem this⟩
end Go.Proofs.Ytapaenfafjmljaa.V

/- Lists: meta.Sound: what the machine over values makes of it: equations, written by program; what is not said of a function is a variable. -/
namespace Go.Proofs.Ytapaenfafjmljaa.V
open Go
set_option maxRecDepth 100000
set_option linter.unusedVariables false
set_option linter.unusedSimpArgs false
variable {mx : Int}
def isDf : D → Bool
  | .agg [.int .i64 _, .int .i64 _] => true
  | _ => false
def dfB : D → Bool
  | .agg [.int _ md, .int _ dy] => bif md == 0 then dy == 0 else bif md == 1 then (bif decide (dy ≥ 1) then decide (dy ≤ 36500) else false) else bif md == 2 then (bif decide (dy ≥ 1) then decide (dy ≤ 36500) else false) else false
  | _ => false
def isPt : D → Bool
  | .agg [.int .i64 _, .int .i64 _, .int .u64 _, .agg _] => true
  | _ => false
def ptB : D → Bool
  | .agg [.int _ a, .int _ b, .int _ c, .agg _] => bif decide (a ≥ 1) then bif decide (a ≤ 10000) then bif decide (b ≥ 0) then bif decide (b ≤ 1024) then decide (c ≥ 1) else false else false else false else false
  | _ => false
def uC : D → Bool
  | .agg [.int .u64 _, .str k, .slice _ t, .slice _ p] => short k && (tC t && p.all isPt)
  | _ => false
def spUpv (UP : D → Int → Bool) : List AV → Option (Bool × AV)
  | [.d 93 u, .i .u64 b] => some (uC u, .b (UP u b))
  | _ => none
theorem w43 (lab : Lab) (c : Int) : evF (Γ mx) (runS []) lab 43 [.i .u8 c] [] =
  bif decide (c ≥ 97) then (bif decide (c ≤ 122) then (some (.b true, [])) else (bif decide (c ≥ 48) then (some (.b (decide (c ≤ 57)), [])) else (some (.b false, [])))) else (bif decide (c ≥ 48) then (some (.b (decide (c ≤ 57)), [])) else (some (.b false, []))) := by kernel_rfl
theorem w44 (lab : Lab) (s : List UInt8) : evF (Γ mx) (runS []) lab 44 [.s s] [] =
  lab (todoAt (Γ mx) 44 3) ⟨[(0, .s s), (3, .i .i64 0), (4, .i .i64 0), (5, .i .i64 0)], []⟩ := by kernel_rfl
theorem w44_3a (lab : Lab) (s1 : List UInt8) (n2 : Int) (n3 : Int) (n4 : Int) : evL (Γ mx) (runS []) lab 44 3 ⟨[(0, .s s1), (3, .i .i64 n2), (4, .i .i64 n3), (5, .i .i64 n4)], []⟩ =
  bif decide (n4 < ((List.length s1 : Int))) then (idx s1 n4 fun c5 => bif ((c5.toNat : Int)) == 46 then (bif n3 == 0 then (some (.b false, [])) else (lab (todoAt (Γ mx) 44 3) ⟨[(0, .s s1), (3, .i .i64 (IntKind.wrap .i64 (n2 + 1))), (4, .i .i64 0), (5, .i .i64 (IntKind.wrap .i64 (n4 + 1)))], []⟩)) else (idx s1 n4 fun c6 => bif decide (((c6.toNat : Int)) < 48) then (some (.b false, [])) else (idx s1 n4 fun c7 => bif decide (((c7.toNat : Int)) > 57) then (some (.b false, [])) else (bif decide ((IntKind.wrap .i64 (n3 + 1)) > 3) then (some (.b false, [])) else (lab (todoAt (Γ mx) 44 3) ⟨[(0, .s s1), (3, .i .i64 n2), (4, .i .i64 (IntKind.wrap .i64 (n3 + 1))), (5, .i .i64 (IntKind.wrap .i64 (n4 + 1)))], []⟩))))) else (bif n2 == 3 then (some (.b (decide (n3 > 0)), [])) else (some (.b false, []))) := by kernel_rfl
theorem w32 (lab : Lab) (md : Int) (dy : Int) : evF (Γ mx) (runS []) lab 32 [.d 26 (D.agg [D.int .i64 md, D.int .i64 dy])] [] =
  bif md == 0 then (some (.b (dy == 0), [])) else (bif md == 1 then (bif decide (dy ≥ 1) then (some (.b (decide (dy ≤ 36500)), [])) else (some (.b false, []))) else (bif md == 2 then (bif decide (dy ≥ 1) then (some (.b (decide (dy ≤ 36500)), [])) else (some (.b false, []))) else (some (.b false, [])))) := by kernel_rfl
theorem w50 (lab : Lab) (n1 : Int) (n2 : Int) (n3 : Int) (dg : List D) : evF (Γ mx) (runS []) lab 50 [.d 107 (D.agg [D.int .i64 n1, D.int .i64 n2, D.int .u64 n3, D.agg dg])] [] =
  bif decide (n1 ≥ 1) then (bif decide (n1 ≤ 10000) then (bif decide (n2 ≥ 0) then (bif decide (n2 ≤ 1024) then (some (.b (decide (n3 ≥ 1)), [])) else (some (.b false, []))) else (some (.b false, []))) else (some (.b false, []))) else (some (.b false, [])) := by kernel_rfl
def W31 (FO : List UInt8 → Bool) : Handle := runS [⟨43, dat (spB fun n => .b (lowZ n))⟩, ⟨44, dat (sp1 short fun p => .b (FO p))⟩]
theorem w31 (FO : List UInt8 → Bool) (lab : Lab) (s : List UInt8) : evF (Γ mx) (W31 FO) lab 31 [.s s] [] =
  bif decide (((List.length s : Int)) < 3) then (some (.b false, [])) else (bif decide (((List.length s : Int)) > 63) then (some (.b false, [])) else (idx s 0 fun c1 => bif !(lowZ ((c1.toNat : Int))) then (some (.b false, [])) else (idx s (IntKind.wrap .i64 (((List.length s : Int)) - 1)) fun c2 => bif !(lowZ ((c2.toNat : Int))) then (some (.b false, [])) else (bif short s then (bif FO s then (some (.b false, [])) else (lab (todoAt (Γ mx) 31 4) ⟨[(0, .s s), (3, .i .i64 0)], []⟩)) else none)))) := by kernel_rfl
theorem w31_4a (FO : List UInt8 → Bool) (lab : Lab) (s1 : List UInt8) (n2 : Int) : evL (Γ mx) (W31 FO) lab 31 4 ⟨[(0, .s s1), (3, .i .i64 n2)], []⟩ =
  bif decide (n2 < ((List.length s1 : Int))) then (idx s1 n2 fun c3 => bif !(lowZ ((c3.toNat : Int))) then (idx s1 n2 fun c4 => bif ((c4.toNat : Int)) != 45 then (idx s1 n2 fun c5 => bif ((c5.toNat : Int)) != 46 then (some (.b false, [])) else (bif decide (n2 > 0) then (idx s1 n2 fun c6 => bif !(lowZ ((c6.toNat : Int))) then (idx s1 (IntKind.wrap .i64 (n2 - 1)) fun c7 => bif !(lowZ ((c7.toNat : Int))) then (idx s1 n2 fun c8 => bif ((c8.toNat : Int)) == 45 then (idx s1 (IntKind.wrap .i64 (n2 - 1)) fun c9 => bif !(((c9.toNat : Int)) == 45) then (some (.b false, [])) else (lab (todoAt (Γ mx) 31 4) ⟨[(0, .s s1), (3, .i .i64 (IntKind.wrap .i64 (n2 + 1)))], []⟩)) else (some (.b false, []))) else (lab (todoAt (Γ mx) 31 4) ⟨[(0, .s s1), (3, .i .i64 (IntKind.wrap .i64 (n2 + 1)))], []⟩)) else (lab (todoAt (Γ mx) 31 4) ⟨[(0, .s s1), (3, .i .i64 (IntKind.wrap .i64 (n2 + 1)))], []⟩)) else (lab (todoAt (Γ mx) 31 4) ⟨[(0, .s s1), (3, .i .i64 (IntKind.wrap .i64 (n2 + 1)))], []⟩))) else (bif decide (n2 > 0) then (idx s1 n2 fun c10 => bif !(lowZ ((c10.toNat : Int))) then (idx s1 (IntKind.wrap .i64 (n2 - 1)) fun c11 => bif !(lowZ ((c11.toNat : Int))) then (idx s1 n2 fun c12 => bif ((c12.toNat : Int)) == 45 then (idx s1 (IntKind.wrap .i64 (n2 - 1)) fun c13 => bif !(((c13.toNat : Int)) == 45) then (some (.b false, [])) else (lab (todoAt (Γ mx) 31 4) ⟨[(0, .s s1), (3, .i .i64 (IntKind.wrap .i64 (n2 + 1)))], []⟩)) else (some (.b false, []))) else (lab (todoAt (Γ mx) 31 4) ⟨[(0, .s s1), (3, .i .i64 (IntKind.wrap .i64 (n2 + 1)))], []⟩)) else (lab (todoAt (Γ mx) 31 4) ⟨[(0, .s s1), (3, .i .i64 (IntKind.wrap .i64 (n2 + 1)))], []⟩)) else (lab (todoAt (Γ mx) 31 4) ⟨[(0, .s s1), (3, .i .i64 (IntKind.wrap .i64 (n2 + 1)))], []⟩))) else (bif decide (n2 > 0) then (idx s1 n2 fun c14 => bif !(lowZ ((c14.toNat : Int))) then (idx s1 (IntKind.wrap .i64 (n2 - 1)) fun c15 => bif !(lowZ ((c15.toNat : Int))) then (idx s1 n2 fun c16 => bif ((c16.toNat : Int)) == 45 then (idx s1 (IntKind.wrap .i64 (n2 - 1)) fun c17 => bif !(((c17.toNat : Int)) == 45) then (some (.b false, [])) else (lab (todoAt (Γ mx) 31 4) ⟨[(0, .s s1), (3, .i .i64 (IntKind.wrap .i64 (n2 + 1)))], []⟩)) else (some (.b false, []))) else (lab (todoAt (Γ mx) 31 4) ⟨[(0, .s s1), (3, .i .i64 (IntKind.wrap .i64 (n2 + 1)))], []⟩)) else (lab (todoAt (Γ mx) 31 4) ⟨[(0, .s s1), (3, .i .i64 (IntKind.wrap .i64 (n2 + 1)))], []⟩)) else (lab (todoAt (Γ mx) 31 4) ⟨[(0, .s s1), (3, .i .i64 (IntKind.wrap .i64 (n2 + 1)))], []⟩))) else (some (.b true, [])) := by kernel_rfl
def W36  : Handle := runS [⟨46, dat (spL1s 82 tC fun l => .b (tsB l))⟩, ⟨48, dat (sp1 short fun s => .b (keyB s))⟩, ⟨50, dat (spD1 107 isPt fun p => .b (ptB p))⟩]
theorem w36 (lab : Lab) (ui : Int) (uk : List UInt8) (utc : Cp) (ut : List D) (upc : Cp) (up : List D) (b : Int) : evF (Γ mx) W36 lab 36 [.d 93 (D.agg [D.int .u64 ui, D.str uk, D.slice utc ut, D.slice upc up]), .i .u64 b] [] =
  bif short uk then (bif !(keyB uk) then (some (.b false, [])) else (bif tC ut then (bif !(tsB ut) then (some (.b false, [])) else (bif decide (((up.length : Int)) > 16) then (some (.b false, [])) else (lab (todoAt (Γ mx) 36 4) ⟨[(1, .i .u64 b), (2, .ptr 0 [] 93), (5, .i .i64 0)], [some (.box 93 (.d 93 (D.agg [D.int .u64 ui, D.str uk, D.slice utc ut, D.slice upc up])))]⟩))) else none)) else none := by kernel_rfl
theorem w36_4a (lab : Lab) (n1 : Int) (n2 : Int) (n3 : Int) (s4 : List UInt8) (c5 : Cp) (l6 : List D) (c7 : Cp) (l8 : List D) : evL (Γ mx) W36 lab 36 4 ⟨[(1, .i .u64 n1), (2, .ptr 0 [] 93), (5, .i .i64 n2)], [some (.box 93 (.d 93 (D.agg [D.int .u64 n3, D.str s4, D.slice c5 l6, D.slice c7 l8])))]⟩ =
  bif decide (n2 < ((l8.length : Int))) then (idx l8 n2 fun y9 => dAgg y9 fun y10 => lCons y10 fun a11 r12 => dInt .i64 a11 fun n13 => lCons r12 fun a14 r15 => dInt .i64 a14 fun n16 => lCons r15 fun a17 r18 => dInt .u64 a17 fun n19 => lCons r18 fun a20 r21 => dAgg a20 fun y22 => lNil r21 (bif isPt (D.agg [D.int .i64 n13, D.int .i64 n16, D.int .u64 n19, D.agg y22]) then (bif !(ptB (D.agg [D.int .i64 n13, D.int .i64 n16, D.int .u64 n19, D.agg y22])) then (some (.b false, [])) else (idx l8 n2 fun y23 => dAgg y23 fun y24 => lGet y24 2 fun y25 => dInt .u64 y25 fun n26 => bif decide (n26 ≥ n1) then (some (.b false, [])) else (bif decide (n2 > 0) then (idx l8 (IntKind.wrap .i64 (n2 - 1)) fun y27 => dAgg y27 fun y28 => lGet y28 0 fun y29 => dInt .i64 y29 fun n30 => idx l8 n2 fun y31 => dAgg y31 fun y32 => lGet y32 0 fun y33 => dInt .i64 y33 fun n34 => bif decide (n30 ≥ n34) then (some (.b false, [])) else (lab (todoAt (Γ mx) 36 4) ⟨[(1, .i .u64 n1), (2, .ptr 0 [] 93), (5, .i .i64 (IntKind.wrap .i64 (n2 + 1)))], [some (.box 93 (.d 93 (D.agg [D.int .u64 n3, D.str s4, D.slice c5 l6, D.slice c7 l8])))]⟩)) else (lab (todoAt (Γ mx) 36 4) ⟨[(1, .i .u64 n1), (2, .ptr 0 [] 93), (5, .i .i64 (IntKind.wrap .i64 (n2 + 1)))], [some (.box 93 (.d 93 (D.agg [D.int .u64 n3, D.str s4, D.slice c5 l6, D.slice c7 l8])))]⟩)))) else none)) else (some (.b true, [])) := by kernel_rfl
def W18 (BK : List UInt8 → Bool) (UP : D → Int → Bool) : Handle := runS [⟨30, dat spClamp⟩, ⟨31, dat (sp1 short fun p => .b (BK p))⟩, ⟨32, dat (spD1 26 isDf fun d => .b (dfB d))⟩, ⟨33, dat (spL1 100 rsC fun l => .b (rsB l))⟩, ⟨34, dat (spL1 103 allG fun l => .b (grB l))⟩, ⟨35, dat (spD1 59 oC fun o => .b (oSnd o))⟩, ⟨36, dat (spUpv UP)⟩]
theorem w18 (BK : List UInt8 → Bool) (UP : D → Int → Bool) (lab : Lab) (sm : Int) (sn : Int) (sb : Int) (sc : Cp) (sl : List D) : evF (Γ mx) (W18 BK UP) lab 18 [.d 24 (D.agg [D.int .i64 sm, D.int .u64 sn, D.int .u64 sb, D.slice sc sl])] [] =
  bif (clampZ sm) != sm then (some (.b false, [])) else (bif decide (sn < 1) then (some (.b false, [])) else (bif decide (sn > 4611686018427387904) then (some (.b false, [])) else (bif decide (sb < 1) then (some (.b false, [])) else (bif decide (sb > 4611686018427387904) then (some (.b false, [])) else (bif decide (((sl.length : Int)) > 16) then (some (.b false, [])) else (lab (todoAt (Γ mx) 18 6) ⟨[(1, .ptr 0 [] 24), (3, .ref 22 1), (4, .i .i64 0), (5, .i .i64 0)], [some (.box 24 (.d 24 (D.agg [D.int .i64 sm, D.int .u64 sn, D.int .u64 sb, D.slice sc sl]))), some (.arr 22 [] false)]⟩)))))) := by kernel_rfl
theorem w18_6a (BK : List UInt8 → Bool) (UP : D → Int → Bool) (lab : Lab) (n1 : Int) (n2 : Int) (n3 : Int) (n4 : Int) (n5 : Int) (c6 : Cp) (l7 : List D) (l8 : List D) : evL (Γ mx) (W18 BK UP) lab 18 6 ⟨[(1, .ptr 0 [] 24), (3, .ref 22 1), (4, .i .i64 n1), (5, .i .i64 n2)], [some (.box 24 (.d 24 (D.agg [D.int .i64 n3, D.int .u64 n4, D.int .u64 n5, D.slice c6 l7]))), some (.arr 22 l8 false)]⟩ =
  bif decide (n2 < ((l7.length : Int))) then (idx l7 n2 fun y9 => dAgg y9 fun y10 => lCons y10 fun a11 r12 => dStr a11 fun s13 => lCons r12 fun a14 r15 => dAgg a14 fun y16 => lCons y16 fun a17 r18 => dInt .i64 a17 fun n19 => lCons r18 fun a20 r21 => dInt .i64 a20 fun n22 => lNil r21 (lCons r15 fun a23 r24 => dSlice a23 fun c25 l26 => lCons r24 fun a27 r28 => dSlice a27 fun c29 l30 => lCons r28 fun a31 r32 => dSlice a31 fun c33 l34 => lCons r32 fun a35 r36 => dSlice a35 fun c37 l38 => lNil r36 (bif short s13 then (bif !(BK s13) then (some (.b false, [])) else (bif decide (n2 > 0) then (idx l7 (IntKind.wrap .i64 (n2 - 1)) fun y39 => dAgg y39 fun y40 => lGet y40 0 fun y41 => dStr y41 fun s42 => bif !lessB s42 s13 then (some (.b false, [])) else (bif isDf (D.agg [D.int .i64 n19, D.int .i64 n22]) then (bif !(dfB (D.agg [D.int .i64 n19, D.int .i64 n22])) then (some (.b false, [])) else (bif rsC l26 then (bif !(rsB l26) then (some (.b false, [])) else (bif allG l30 then (bif !(grB l30) then (some (.b false, [])) else (bif decide (((l38.length : Int)) > 4) then (some (.b false, [])) else (lab (todoAt (Γ mx) 18 12) ⟨[(1, .ptr 0 [] 24), (3, .ref 22 1), (4, .i .i64 n1), (5, .i .i64 n2), (6, .ptr 2 [] 32), (7, .i .i64 0)], [some (.box 24 (.d 24 (D.agg [D.int .i64 n3, D.int .u64 n4, D.int .u64 n5, D.slice c6 l7]))), some (.arr 22 l8 false), some (.box 32 (.d 32 (D.agg [D.str s13, D.agg [D.int .i64 n19, D.int .i64 n22], D.slice c25 l26, D.slice c29 l30, D.slice c33 l34, D.slice c37 l38])))]⟩))) else none)) else none)) else none)) else (bif isDf (D.agg [D.int .i64 n19, D.int .i64 n22]) then (bif !(dfB (D.agg [D.int .i64 n19, D.int .i64 n22])) then (some (.b false, [])) else (bif rsC l26 then (bif !(rsB l26) then (some (.b false, [])) else (bif allG l30 then (bif !(grB l30) then (some (.b false, [])) else (bif decide (((l38.length : Int)) > 4) then (some (.b false, [])) else (lab (todoAt (Γ mx) 18 12) ⟨[(1, .ptr 0 [] 24), (3, .ref 22 1), (4, .i .i64 n1), (5, .i .i64 n2), (6, .ptr 2 [] 32), (7, .i .i64 0)], [some (.box 24 (.d 24 (D.agg [D.int .i64 n3, D.int .u64 n4, D.int .u64 n5, D.slice c6 l7]))), some (.arr 22 l8 false), some (.box 32 (.d 32 (D.agg [D.str s13, D.agg [D.int .i64 n19, D.int .i64 n22], D.slice c25 l26, D.slice c29 l30, D.slice c33 l34, D.slice c37 l38])))]⟩))) else none)) else none)) else none))) else none))) else (lab (todoAt (Γ mx) 18 36) ⟨[(1, .ptr 0 [] 24), (3, .ref 22 1), (12, .i .i64 0)], [some (.box 24 (.d 24 (D.agg [D.int .i64 n3, D.int .u64 n4, D.int .u64 n5, D.slice c6 l7]))), some (.arr 22 l8 false)]⟩) := by kernel_rfl
theorem w18_12a (BK : List UInt8 → Bool) (UP : D → Int → Bool) (lab : Lab) (n1 : Int) (n2 : Int) (n3 : Int) (n4 : Int) (n5 : Int) (n6 : Int) (c7 : Cp) (l8 : List D) (l9 : List D) (s10 : List UInt8) (n11 : Int) (n12 : Int) (c13 : Cp) (l14 : List D) (c15 : Cp) (l16 : List D) (c17 : Cp) (l18 : List D) (c19 : Cp) (l20 : List D) : evL (Γ mx) (W18 BK UP) lab 18 12 ⟨[(1, .ptr 0 [] 24), (3, .ref 22 1), (4, .i .i64 n1), (5, .i .i64 n2), (6, .ptr 2 [] 32), (7, .i .i64 n3)], [some (.box 24 (.d 24 (D.agg [D.int .i64 n4, D.int .u64 n5, D.int .u64 n6, D.slice c7 l8]))), some (.arr 22 l9 false), some (.box 32 (.d 32 (D.agg [D.str s10, D.agg [D.int .i64 n11, D.int .i64 n12], D.slice c13 l14, D.slice c15 l16, D.slice c17 l18, D.slice c19 l20])))]⟩ =
  bif decide (n3 < ((l18.length : Int))) then (idx l18 n3 fun y21 => dAgg y21 fun y22 => lCons y22 fun a23 r24 => dStr a23 fun s25 => lCons r24 fun a26 r27 => dSlice a26 fun c28 l29 => lNil r27 (bif oC (D.agg [D.str s25, D.slice c28 l29]) then (bif !(oSnd (D.agg [D.str s25, D.slice c28 l29])) then (some (.b false, [])) else (bif decide (n3 > 0) then (idx l18 (IntKind.wrap .i64 (n3 - 1)) fun y30 => dAgg y30 fun y31 => lGet y31 0 fun y32 => dStr y32 fun s33 => bif !lessB s33 s25 then (some (.b false, [])) else (bif decide ((IntKind.wrap .i64 (n1 + ((l29.length : Int)))) > 256) then (some (.b false, [])) else (lab (todoAt (Γ mx) 18 21) ⟨[(1, .ptr 0 [] 24), (3, .ref 22 1), (4, .i .i64 (IntKind.wrap .i64 (n1 + ((l29.length : Int))))), (5, .i .i64 n2), (6, .ptr 2 [] 32), (7, .i .i64 n3), (8, .ptr 3 [] 59), (9, .i .i64 0)], [some (.box 24 (.d 24 (D.agg [D.int .i64 n4, D.int .u64 n5, D.int .u64 n6, D.slice c7 l8]))), some (.arr 22 l9 false), some (.box 32 (.d 32 (D.agg [D.str s10, D.agg [D.int .i64 n11, D.int .i64 n12], D.slice c13 l14, D.slice c15 l16, D.slice c17 l18, D.slice c19 l20]))), some (.box 59 (.d 59 (D.agg [D.str s25, D.slice c28 l29])))]⟩))) else (bif decide ((IntKind.wrap .i64 (n1 + ((l29.length : Int)))) > 256) then (some (.b false, [])) else (lab (todoAt (Γ mx) 18 21) ⟨[(1, .ptr 0 [] 24), (3, .ref 22 1), (4, .i .i64 (IntKind.wrap .i64 (n1 + ((l29.length : Int))))), (5, .i .i64 n2), (6, .ptr 2 [] 32), (7, .i .i64 n3), (8, .ptr 3 [] 59), (9, .i .i64 0)], [some (.box 24 (.d 24 (D.agg [D.int .i64 n4, D.int .u64 n5, D.int .u64 n6, D.slice c7 l8]))), some (.arr 22 l9 false), some (.box 32 (.d 32 (D.agg [D.str s10, D.agg [D.int .i64 n11, D.int .i64 n12], D.slice c13 l14, D.slice c15 l16, D.slice c17 l18, D.slice c19 l20]))), some (.box 59 (.d 59 (D.agg [D.str s25, D.slice c28 l29])))]⟩)))) else none)) else (lab (todoAt (Γ mx) 18 28) ⟨[(1, .ptr 0 [] 24), (3, .ref 22 1), (4, .i .i64 n1), (5, .i .i64 n2), (6, .ptr 2 [] 32), (11, .i .i64 0)], [some (.box 24 (.d 24 (D.agg [D.int .i64 n4, D.int .u64 n5, D.int .u64 n6, D.slice c7 l8]))), some (.arr 22 l9 false), some (.box 32 (.d 32 (D.agg [D.str s10, D.agg [D.int .i64 n11, D.int .i64 n12], D.slice c13 l14, D.slice c15 l16, D.slice c17 l18, D.slice c19 l20])))]⟩) := by kernel_rfl
theorem w18_36a (BK : List UInt8 → Bool) (UP : D → Int → Bool) (lab : Lab) (n1 : Int) (n2 : Int) (n3 : Int) (n4 : Int) (c5 : Cp) (l6 : List D) (l7 : List D) : evL (Γ mx) (W18 BK UP) lab 18 36 ⟨[(1, .ptr 0 [] 24), (3, .ref 22 1), (12, .i .i64 n1)], [some (.box 24 (.d 24 (D.agg [D.int .i64 n2, D.int .u64 n3, D.int .u64 n4, D.slice c5 l6]))), some (.arr 22 l7 false)]⟩ =
  bif decide (n1 < ((l7.length : Int))) then (bif decide ((0:Int) ≤ n1) && decide (n1 < (l7.length : Int)) then (lGet l7 (Int.toNat n1) fun y8 => dInt .u64 y8 fun n9 => bif decide (n9 < 1) then (some (.b false, [])) else (bif decide ((0:Int) ≤ n1) && decide (n1 < (l7.length : Int)) then (lGet l7 (Int.toNat n1) fun y10 => dInt .u64 y10 fun n11 => bif decide (n11 ≥ n3) then (some (.b false, [])) else (lab (todoAt (Γ mx) 18 41) ⟨[(1, .ptr 0 [] 24), (3, .ref 22 1), (12, .i .i64 n1), (13, .i .i64 0)], [some (.box 24 (.d 24 (D.agg [D.int .i64 n2, D.int .u64 n3, D.int .u64 n4, D.slice c5 l6]))), some (.arr 22 l7 false)]⟩)) else none)) else none) else (some (.b true, [])) := by kernel_rfl
theorem w18_21a (BK : List UInt8 → Bool) (UP : D → Int → Bool) (lab : Lab) (n1 : Int) (n2 : Int) (n3 : Int) (n4 : Int) (n5 : Int) (n6 : Int) (n7 : Int) (c8 : Cp) (l9 : List D) (l10 : List D) (s11 : List UInt8) (n12 : Int) (n13 : Int) (c14 : Cp) (l15 : List D) (c16 : Cp) (l17 : List D) (c18 : Cp) (l19 : List D) (c20 : Cp) (l21 : List D) (s22 : List UInt8) (c23 : Cp) (l24 : List D) : evL (Γ mx) (W18 BK UP) lab 18 21 ⟨[(1, .ptr 0 [] 24), (3, .ref 22 1), (4, .i .i64 n1), (5, .i .i64 n2), (6, .ptr 2 [] 32), (7, .i .i64 n3), (8, .ptr 3 [] 59), (9, .i .i64 n4)], [some (.box 24 (.d 24 (D.agg [D.int .i64 n5, D.int .u64 n6, D.int .u64 n7, D.slice c8 l9]))), some (.arr 22 l10 false), some (.box 32 (.d 32 (D.agg [D.str s11, D.agg [D.int .i64 n12, D.int .i64 n13], D.slice c14 l15, D.slice c16 l17, D.slice c18 l19, D.slice c20 l21]))), some (.box 59 (.d 59 (D.agg [D.str s22, D.slice c23 l24])))]⟩ =
  bif decide (n4 < ((l24.length : Int))) then (idx l24 n4 fun y25 => dAgg y25 fun y26 => lCons y26 fun a27 r28 => dInt .u64 a27 fun n29 => lCons r28 fun a30 r31 => dBool a30 fun b32 => lCons r31 fun a33 r34 => dInt .i64 a33 fun n35 => lCons r34 fun a36 r37 => dInt .u64 a36 fun n38 => lCons r37 fun a39 r40 => dAgg a39 fun y41 => lCons r40 fun a42 r43 => dInt .i64 a42 fun n44 => lCons r43 fun a45 r46 => dAgg a45 fun y47 => lCons y47 fun a48 r49 => dInt .i64 a48 fun n50 => lCons r49 fun a51 r52 => dInt .i64 a51 fun n53 => lCons r52 fun a54 r55 => dBool a54 fun b56 => lNil r55 (lCons r46 fun a57 r58 => dSlice a57 fun c59 l60 => lNil r58 (bif decide (n44 > n5) then (some (.b false, [])) else (bif decide (n38 ≥ n7) then (some (.b false, [])) else (bif roomB (l10.length + 1) 8 then (lab (todoAt (Γ mx) 18 21) ⟨[(1, .ptr 0 [] 24), (3, .ref 22 1), (4, .i .i64 n1), (5, .i .i64 n2), (6, .ptr 2 [] 32), (7, .i .i64 n3), (8, .ptr 3 [] 59), (9, .i .i64 (IntKind.wrap .i64 (n4 + 1)))], [some (.box 24 (.d 24 (D.agg [D.int .i64 n5, D.int .u64 n6, D.int .u64 n7, D.slice c8 l9]))), some (.arr 22 (l10 ++ [D.int .u64 n29]) false), some (.box 32 (.d 32 (D.agg [D.str s11, D.agg [D.int .i64 n12, D.int .i64 n13], D.slice c14 l15, D.slice c16 l17, D.slice c18 l19, D.slice c20 l21]))), some (.box 59 (.d 59 (D.agg [D.str s22, D.slice c23 l24])))]⟩) else none))))) else (lab (todoAt (Γ mx) 18 12) ⟨[(1, .ptr 0 [] 24), (3, .ref 22 1), (4, .i .i64 n1), (5, .i .i64 n2), (6, .ptr 2 [] 32), (7, .i .i64 (IntKind.wrap .i64 (n3 + 1)))], [some (.box 24 (.d 24 (D.agg [D.int .i64 n5, D.int .u64 n6, D.int .u64 n7, D.slice c8 l9]))), some (.arr 22 l10 false), some (.box 32 (.d 32 (D.agg [D.str s11, D.agg [D.int .i64 n12, D.int .i64 n13], D.slice c14 l15, D.slice c16 l17, D.slice c18 l19, D.slice c20 l21])))]⟩) := by kernel_rfl
theorem w18_28a (BK : List UInt8 → Bool) (UP : D → Int → Bool) (lab : Lab) (n1 : Int) (n2 : Int) (n3 : Int) (n4 : Int) (n5 : Int) (n6 : Int) (c7 : Cp) (l8 : List D) (l9 : List D) (s10 : List UInt8) (n11 : Int) (n12 : Int) (c13 : Cp) (l14 : List D) (c15 : Cp) (l16 : List D) (c17 : Cp) (l18 : List D) (c19 : Cp) (l20 : List D) : evL (Γ mx) (W18 BK UP) lab 18 28 ⟨[(1, .ptr 0 [] 24), (3, .ref 22 1), (4, .i .i64 n1), (5, .i .i64 n2), (6, .ptr 2 [] 32), (11, .i .i64 n3)], [some (.box 24 (.d 24 (D.agg [D.int .i64 n4, D.int .u64 n5, D.int .u64 n6, D.slice c7 l8]))), some (.arr 22 l9 false), some (.box 32 (.d 32 (D.agg [D.str s10, D.agg [D.int .i64 n11, D.int .i64 n12], D.slice c13 l14, D.slice c15 l16, D.slice c17 l18, D.slice c19 l20])))]⟩ =
  bif decide (n3 < ((l20.length : Int))) then (idx l20 n3 fun y21 => dAgg y21 fun y22 => lCons y22 fun a23 r24 => dInt .u64 a23 fun n25 => lCons r24 fun a26 r27 => dStr a26 fun s28 => lCons r27 fun a29 r30 => dSlice a29 fun c31 l32 => lCons r30 fun a33 r34 => dSlice a33 fun c35 l36 => lNil r34 (bif uC (D.agg [D.int .u64 n25, D.str s28, D.slice c31 l32, D.slice c35 l36]) then (bif !(UP (D.agg [D.int .u64 n25, D.str s28, D.slice c31 l32, D.slice c35 l36]) n6) then (some (.b false, [])) else (bif decide (n3 > 0) then (idx l20 (IntKind.wrap .i64 (n3 - 1)) fun y37 => dAgg y37 fun y38 => lGet y38 0 fun y39 => dInt .u64 y39 fun n40 => idx l20 n3 fun y41 => dAgg y41 fun y42 => lGet y42 0 fun y43 => dInt .u64 y43 fun n44 => bif decide (n40 ≥ n44) then (some (.b false, [])) else (idx l20 n3 fun y45 => dAgg y45 fun y46 => lGet y46 0 fun y47 => dInt .u64 y47 fun n48 => bif roomB (l9.length + 1) 8 then (lab (todoAt (Γ mx) 18 28) ⟨[(1, .ptr 0 [] 24), (3, .ref 22 1), (4, .i .i64 n1), (5, .i .i64 n2), (6, .ptr 2 [] 32), (11, .i .i64 (IntKind.wrap .i64 (n3 + 1)))], [some (.box 24 (.d 24 (D.agg [D.int .i64 n4, D.int .u64 n5, D.int .u64 n6, D.slice c7 l8]))), some (.arr 22 (l9 ++ [D.int .u64 n48]) false), some (.box 32 (.d 32 (D.agg [D.str s10, D.agg [D.int .i64 n11, D.int .i64 n12], D.slice c13 l14, D.slice c15 l16, D.slice c17 l18, D.slice c19 l20])))]⟩) else none)) else (idx l20 n3 fun y49 => dAgg y49 fun y50 => lGet y50 0 fun y51 => dInt .u64 y51 fun n52 => bif roomB (l9.length + 1) 8 then (lab (todoAt (Γ mx) 18 28) ⟨[(1, .ptr 0 [] 24), (3, .ref 22 1), (4, .i .i64 n1), (5, .i .i64 n2), (6, .ptr 2 [] 32), (11, .i .i64 (IntKind.wrap .i64 (n3 + 1)))], [some (.box 24 (.d 24 (D.agg [D.int .i64 n4, D.int .u64 n5, D.int .u64 n6, D.slice c7 l8]))), some (.arr 22 (l9 ++ [D.int .u64 n52]) false), some (.box 32 (.d 32 (D.agg [D.str s10, D.agg [D.int .i64 n11, D.int .i64 n12], D.slice c13 l14, D.slice c15 l16, D.slice c17 l18, D.slice c19 l20])))]⟩) else none))) else none)) else (lab (todoAt (Γ mx) 18 6) ⟨[(1, .ptr 0 [] 24), (3, .ref 22 1), (4, .i .i64 n1), (5, .i .i64 (IntKind.wrap .i64 (n2 + 1)))], [some (.box 24 (.d 24 (D.agg [D.int .i64 n4, D.int .u64 n5, D.int .u64 n6, D.slice c7 l8]))), some (.arr 22 l9 false)]⟩) := by kernel_rfl
theorem w18_41a (BK : List UInt8 → Bool) (UP : D → Int → Bool) (lab : Lab) (n1 : Int) (n2 : Int) (n3 : Int) (n4 : Int) (n5 : Int) (c6 : Cp) (l7 : List D) (l8 : List D) : evL (Γ mx) (W18 BK UP) lab 18 41 ⟨[(1, .ptr 0 [] 24), (3, .ref 22 1), (12, .i .i64 n1), (13, .i .i64 n2)], [some (.box 24 (.d 24 (D.agg [D.int .i64 n3, D.int .u64 n4, D.int .u64 n5, D.slice c6 l7]))), some (.arr 22 l8 false)]⟩ =
  bif decide (n2 < n1) then (bif decide ((0:Int) ≤ n2) && decide (n2 < (l8.length : Int)) then (lGet l8 (Int.toNat n2) fun y9 => dInt .u64 y9 fun n10 => bif decide ((0:Int) ≤ n1) && decide (n1 < (l8.length : Int)) then (lGet l8 (Int.toNat n1) fun y11 => dInt .u64 y11 fun n12 => bif n10 == n12 then (some (.b false, [])) else (lab (todoAt (Γ mx) 18 41) ⟨[(1, .ptr 0 [] 24), (3, .ref 22 1), (12, .i .i64 n1), (13, .i .i64 (IntKind.wrap .i64 (n2 + 1)))], [some (.box 24 (.d 24 (D.agg [D.int .i64 n3, D.int .u64 n4, D.int .u64 n5, D.slice c6 l7]))), some (.arr 22 l8 false)]⟩)) else none) else none) else (lab (todoAt (Γ mx) 18 36) ⟨[(1, .ptr 0 [] 24), (3, .ref 22 1), (12, .i .i64 (IntKind.wrap .i64 (n1 + 1)))], [some (.box 24 (.d 24 (D.agg [D.int .i64 n3, D.int .u64 n4, D.int .u64 n5, D.slice c6 l7]))), some (.arr 22 l8 false)]⟩) := by kernel_rfl
end Go.Proofs.Ytapaenfafjmljaa.V

/- Lists: rows by keys, groups told once, page by page: plain law. Nothing of the program is in it. -/
namespace Go.Proofs.Ytapaenfafjmljaa.V
open Go
set_option linter.unusedVariables false
set_option linter.unusedSimpArgs false
/-! ### beginnings, in the order of texts -/
abbrev Tx := List UInt8
def Beg (s p : Tx) : Prop := ∃ r, s = p ++ r
theorem beg_nil (s : Tx) : Beg s [] := ⟨s, rfl⟩
theorem beg_cons {a b : UInt8} {s p : Tx} : Beg (a :: s) (b :: p) ↔ a = b ∧ Beg s p := by
  constructor
  · rintro ⟨r, h⟩
    rw [List.cons_append] at h
    injection h with h1 h2
    exact ⟨h1, r, h2⟩
  · rintro ⟨rfl, r, rfl⟩
    exact ⟨r, rfl⟩
theorem not_beg {b : UInt8} {p : Tx} : ¬ Beg [] (b :: p) := by
  rintro ⟨r, h⟩
  simp at h
theorem lt_cons {a b : UInt8} {x y : Tx} : lessB (a :: x) (b :: y) = true ↔ a < b ∨ (a = b ∧ lessB x y = true) := by
  rw [lessB_cons]
  simp only [Bool.or_eq_true, decide_eq_true_eq, Bool.and_eq_true, beq_iff_eq]
theorem lt_irr8 {a b : UInt8} (h : a < b) (h' : b < a) : False := by
  rw [UInt8.lt_iff_toNat_lt] at h h'; omega
theorem lt_ne8 {a : UInt8} (h : a < a) : False := UInt8.lt_irrefl a h
/-- what lies between two that begin with a text begins with it -/
theorem beg_between : ∀ {g a b c : Tx}, Beg a g → Beg c g → lessB a b = true → lessB b c = true → Beg b g
  | [], a, b, c, _, _, _, _ => beg_nil b
  | x :: g, [], b, c, h, _, _, _ => absurd h not_beg
  | x :: g, a :: p, b, [], _, h, _, _ => absurd h not_beg
  | x :: g, a :: p, [], c :: r, _, _, h, _ => by rw [lessB_nil] at h; exact absurd h (by simp)
  | x :: g, a :: p, b :: q, c :: r, h1, h2, h3, h4 => by
    obtain ⟨e1, k1⟩ := beg_cons.1 h1
    obtain ⟨e2, k2⟩ := beg_cons.1 h2
    subst e1; subst e2
    rcases lt_cons.1 h3 with k3 | ⟨e3, k3⟩
    · rcases lt_cons.1 h4 with k4 | ⟨e4, _⟩
      · exact absurd k4 fun k4 => lt_irr8 k3 k4
      · rw [e4] at k3; exact absurd k3 fun k3 => lt_ne8 k3
    · rcases lt_cons.1 h4 with k4 | ⟨_, k4⟩
      · rw [e3] at k4; exact absurd k4 fun k4 => lt_ne8 k4
      · exact beg_cons.2 ⟨e3.symm, beg_between k1 k2 k3 k4⟩
/-- likewise from the text itself on -/
theorem beg_from : ∀ {g b c : Tx}, Beg c g → lessB b g = false → lessB b c = true → Beg b g
  | [], b, c, _, _, _ => beg_nil b
  | x :: g, [], c, _, h, _ => absurd h (by simp [lessB, Op.bytesLess])
  | x :: g, b :: q, [], h, _, _ => absurd h not_beg
  | x :: g, b :: q, c :: r, h1, h2, h3 => by
    obtain ⟨e1, k1⟩ := beg_cons.1 h1
    subst e1
    rcases lt_cons.1 h3 with k3 | ⟨e3, k3⟩
    · have : lessB (b :: q) (c :: g) = true := lt_cons.2 (.inl k3)
      rw [h2] at this; exact absurd this (by simp)
    · have : lessB q g = false := by
        cases h : lessB q g with
        | false => rfl
        | true => have := lt_cons.2 (.inr ⟨e3, h⟩); rw [h2] at this; exact absurd this (by simp)
      exact beg_cons.2 ⟨e3, beg_from k1 this k3⟩
theorem fm_congr {α β : Type} {f g : α → Option β} : ∀ {l : List α}, (∀ x ∈ l, f x = g x) → l.filterMap f = l.filterMap g
  | [], _ => rfl
  | a :: l, h => by
    have ha := h a (by simp)
    have ih := fm_congr (l := l) fun x hx => h x (List.mem_cons_of_mem _ hx)
    cases hf : f a with
    | none => rw [List.filterMap_cons_none hf, List.filterMap_cons_none (ha.symm.trans hf), ih]
    | some b => rw [List.filterMap_cons_some hf, List.filterMap_cons_some (ha.symm.trans hf), ih]
theorem lt_app : ∀ (g t : Tx), t ≠ [] → lessB g (g ++ t) = true
  | [], t, h => by cases t <;> first | exact absurd rfl h | rfl
  | a :: g, t, h => lt_cons.2 (.inr ⟨rfl, lt_app g t h⟩)
theorem ge_app (g t : Tx) : lessB (g ++ t) g = false := by
  cases t with
  | nil => rw [List.append_nil]; exact lessB_irrefl g
  | cons x t => exact lessB_asymm (lt_app g (x :: t) (by simp))
/-- above one that begins with g, but not beginning with it: above all that do -/
theorem above_all {g a b : Tx} (ha : Beg a g) (hb : ¬ Beg b g) (h : lessB a b = true) (t : Tx) : lessB (g ++ t) b = true := by
  cases h1 : lessB (g ++ t) b with
  | true => rfl
  | false =>
    exfalso
    cases h2 : lessB b (g ++ t) with
    | true => exact hb (beg_between ha ⟨t, rfl⟩ h h2)
    | false => exact hb ⟨t, (lessB_tri h1 h2).symm⟩
/-! ### objects, rows -/
variable {V : Type}
/-- a row: a key, is it a group, the version -/
abbrev Rw (V : Type) := Tx × Bool × V
structure Kit (V : Type) where
  pre : Tx → Bool
  mark : V → Bool
  G : Tx → Option Tx
  v0 : V
  g1 : ∀ {k g}, G k = some g → Beg k g ∧ g ≠ []
  g2 : ∀ {k k' g}, G k = some g → Beg k' g → G k' = some g
/-- the row of an object behind a key -/
def cand (K : Kit V) (af : Tx) (o : Tx × V) : Option (Rw V) :=
  if K.pre o.1 = true ∧ lessB af o.1 = true ∧ K.mark o.2 = false then
    (match K.G o.1 with
    | some g => if lessB af g = true then some (g, true, K.v0) else none
    | none => some (o.1, false, o.2)) else none
/-- groups told once, by the last one that was told -/
def dl : Tx → List (Rw V) → List (Rw V)
  | _, [] => []
  | last, r :: t => if r.2.1 = true then (if r.1 = last then dl last t else r :: dl r.1 t) else r :: dl last t
/-- by all that were told -/
def told (acc : List (Rw V)) (g : Tx) : Bool := acc.any fun r => r.2.1 && r.1 == g
def da : List (Rw V) → List (Rw V) → List (Rw V)
  | acc, [] => acc
  | acc, r :: t => if r.2.1 = true ∧ told acc r.1 = true then da acc t else da (acc ++ [r]) t
abbrev Asc (os : List (Tx × V)) : Prop := os.Pairwise fun a b => lessB a.1 b.1 = true
theorem told_app (acc : List (Rw V)) (r : Rw V) (g : Tx) : told (acc ++ [r]) g = (told acc g || (r.2.1 && r.1 == g)) := by
  unfold told; rw [List.any_append]; simp
theorem cand_group {K : Kit V} {af : Tx} {o : Tx × V} {r : Rw V} (h : cand K af o = some r) (hr : r.2.1 = true) : K.G o.1 = some r.1 ∧ r.1 ≠ [] := by
  unfold cand at h
  split at h
  · split at h
    · rename_i g hg
      split at h
      · cases h; exact ⟨hg, (K.g1 hg).2⟩
      · exact absurd h (by simp)
    · cases h; exact absurd hr (by simp)
  · exact absurd h (by simp)
theorem cand_key {K : Kit V} {af : Tx} {o : Tx × V} {r : Rw V} (h : cand K af o = some r) (hr : r.2.1 = false) : K.G o.1 = none ∧ r = (o.1, false, o.2) := by
  unfold cand at h
  split at h
  · split at h
    · split at h
      · cases h; exact absurd hr (by simp)
      · exact absurd h (by simp)
    · rename_i hg; cases h; exact ⟨hg, rfl⟩
  · exact absurd h (by simp)
/-- both ways of telling groups once come to the same -/
theorem dl_da (K : Kit V) (af : Tx) : ∀ (os : List (Tx × V)) (acc : List (Rw V)) (last : Tx), Asc os →
    (∀ g, told acc g = true → g = last ∨ ∀ o ∈ os, K.G o.1 ≠ some g) →
    (last = [] ∨ (told acc last = true ∧ ∃ k0, K.G k0 = some last ∧ ∀ o ∈ os, lessB k0 o.1 = true)) →
    acc ++ dl last (os.filterMap (cand K af)) = da acc (os.filterMap (cand K af))
  | [], acc, last, _, _, _ => by simp [dl, da]
  | o :: os, acc, last, ha, h1, h2 => by
    have ha' := List.pairwise_cons.1 ha
    have h1' : ∀ g, told acc g = true → g = last ∨ ∀ o ∈ os, K.G o.1 ≠ some g := fun g hg => (h1 g hg).imp id fun h o' ho' => h o' (List.mem_cons_of_mem _ ho')
    have h2' : last = [] ∨ (told acc last = true ∧ ∃ k0, K.G k0 = some last ∧ ∀ o ∈ os, lessB k0 o.1 = true) := h2.imp id fun ⟨a, k0, b, c⟩ => ⟨a, k0, b, fun o' ho' => c o' (List.mem_cons_of_mem _ ho')⟩
    cases hc : cand K af o with
    | none => rw [List.filterMap_cons_none hc]; exact dl_da K af os acc last ha'.2 h1' h2'
    | some r =>
      rw [List.filterMap_cons_some hc]
      cases hr : r.2.1 with
      | false =>
        rw [dl, da, if_neg (by rw [hr]; simp), if_neg (by rw [hr]; simp)]
        have := dl_da K af os (acc ++ [r]) last ha'.2 (fun g hg => h1' g (by rw [told_app, hr] at hg; simpa using hg)) (h2'.imp id fun ⟨a, b⟩ => ⟨by rw [told_app, a]; rfl, b⟩)
        rw [← this]; simp
      | true =>
        obtain ⟨hg, hne⟩ := cand_group hc hr
        rw [dl, da, if_pos hr]
        by_cases hl : r.1 = last
        · rw [if_pos hl]
          have ht : told acc r.1 = true := by
            rcases h2 with h2 | h2
            · exact absurd (hl.trans h2) hne
            · rw [hl]; exact h2.1
          rw [if_pos ⟨hr, ht⟩]
          exact dl_da K af os acc last ha'.2 h1' h2'
        · rw [if_neg hl]
          have ht : ¬ (r.2.1 = true ∧ told acc r.1 = true) := by
            rintro ⟨_, ht⟩
            rcases h1 _ ht with h | h
            · exact hl h
            · exact h o (by simp) hg
          rw [if_neg ht]
          have := dl_da K af os (acc ++ [r]) r.1 ha'.2 (fun g hg' => by
            rw [told_app, hr, Bool.true_and, Bool.or_eq_true] at hg'
            rcases hg' with hg' | hg'
            · rcases h1 g hg' with e | e
              · subst e
                refine .inr fun o' ho' e' => ?_
                rcases h2 with h2 | ⟨_, k0, k1, k2⟩
                · exact (K.g1 e').2 h2
                · have hb := beg_between (K.g1 k1).1 (K.g1 e').1 (k2 o (by simp)) (ha'.1 o' ho')
                  have := K.g2 k1 hb
                  rw [hg] at this
                  cases this
                  exact hl rfl
              · exact .inr fun o' ho' => e o' (List.mem_cons_of_mem _ ho')
            · exact .inl (eq_of_beq hg').symm) (.inr ⟨by rw [told_app, hr]; simp, o.1, hg, ha'.1⟩)
          rw [← this]; simp
/-- all rows behind a key -/
def rowsF (K : Kit V) (os : List (Tx × V)) (af : Tx) : List (Rw V) := dl [] (os.filterMap (cand K af))
theorem rowsF_da (K : Kit V) {os : List (Tx × V)} (h : Asc os) (af : Tx) : rowsF K os af = da [] (os.filterMap (cand K af)) := by
  have := dl_da K af os [] [] h (fun g hg => by simp [told] at hg) (.inl rfl)
  simpa [rowsF] using this
/-! ### pages -/
/-- where the next page begins -/
def aft (mx : Tx) (r : Rw V) : Tx := if r.2.1 = true then r.1 ++ mx else r.1
/-- a last one that is not told any more does not matter -/
theorem dl_last : ∀ (C : List (Rw V)) (l l' : Tx), (∀ r ∈ C, r.2.1 = true → r.1 ≠ l ∧ r.1 ≠ l') → dl l C = dl l' C
  | [], _, _, _ => rfl
  | r :: C, l, l', h => by
    cases hr : r.2.1 with
    | false => rw [dl, dl, if_neg (by rw [hr]; simp), if_neg (by rw [hr]; simp), dl_last C l l' fun x hx => h x (List.mem_cons_of_mem _ hx)]
    | true =>
      obtain ⟨h1, h2⟩ := h r (by simp) hr
      rw [dl, dl, if_pos hr, if_pos hr, if_neg h1, if_neg h2]
/-- with what is behind a key that is no group -/
theorem cand_behind {K : Kit V} {k : Tx} (hk : K.G k = none) {o : Tx × V} (h : lessB k o.1 = true) : cand K k o = cand K [] o := by
  unfold cand
  have h0 : lessB [] o.1 = true := by
    cases ho : o.1 with
    | nil => rw [ho, lessB_nil] at h; exact absurd h (by simp)
    | cons x y => rfl
  rw [h, h0]
  split
  · cases hg : K.G o.1 with
    | none => rfl
    | some g =>
      obtain ⟨q1, q2⟩ := K.g1 hg
      have e0 : lessB [] g = true := by cases g <;> first | exact absurd rfl q2 | rfl
      simp only
      rw [if_pos e0]
      cases hkg : lessB k g with
      | true => rw [if_pos rfl]
      | false =>
        exfalso
        have hb := beg_from q1 hkg h
        rw [K.g2 hg hb] at hk
        exact absurd hk (by simp)
  · rfl
theorem cand_ahead {K : Kit V} {af : Tx} {o : Tx × V} (h : lessB af o.1 = false) : cand K af o = none := by
  unfold cand
  rw [if_neg]
  rw [h]; simp
/-- behind a group -/
theorem rows_group (K : Kit V) (mx g : Tx) (hm : mx ≠ []) : ∀ (os : List (Tx × V)) (k0 : Tx), Asc os → K.G k0 = some g → (∀ o ∈ os, lessB k0 o.1 = true) → (∀ o ∈ os, Beg o.1 g → lessB o.1 (g ++ mx) = true) →
    dl g (os.filterMap (cand K [])) = dl [] (os.filterMap (cand K (g ++ mx)))
  | [], _, _, _, _, _ => rfl
  | o :: os, k0, ha, hg, h1, h2 => by
    have ha' := List.pairwise_cons.1 ha
    by_cases hb : Beg o.1 g
    · have ih := rows_group K mx g hm os k0 ha'.2 hg (fun x hx => h1 x (List.mem_cons_of_mem _ hx)) (fun x hx => h2 x (List.mem_cons_of_mem _ hx))
      have e2 : cand K (g ++ mx) o = none := cand_ahead (lessB_asymm (h2 o (by simp) hb))
      rw [List.filterMap_cons_none e2, ← ih]
      cases hc : cand K [] o with
      | none => rw [List.filterMap_cons_none hc]
      | some r =>
        rw [List.filterMap_cons_some hc]
        have hgo := K.g2 hg hb
        cases hr : r.2.1 with
        | false => rw [(cand_key hc hr).1] at hgo; exact absurd hgo (by simp)
        | true =>
          have := (cand_group hc hr).1
          rw [hgo] at this
          cases this
          rw [dl, if_pos hr, if_pos rfl]
    · -- from here on nothing begins with g
      have hall : ∀ x ∈ o :: os, ¬ Beg x.1 g := by
        intro x hx hbx
        rcases List.mem_cons.1 hx with rfl | hx
        · exact hb hbx
        · exact hb (beg_between (K.g1 hg).1 hbx (h1 o (by simp)) (ha'.1 x hx))
      have hsame : ∀ x ∈ o :: os, cand K (g ++ mx) x = cand K [] x := by
        intro x hx
        have hlt := above_all (K.g1 hg).1 (hall x hx) (h1 x hx) mx
        unfold cand
        have h0 : lessB [] x.1 = true := by
          cases ho : x.1 with
          | nil => rw [ho, lessB_nil] at hlt; exact absurd hlt (by simp)
          | cons _ _ => rfl
        rw [hlt, h0]
        split
        · cases hgx : K.G x.1 with
          | none => rfl
          | some g' =>
            obtain ⟨q1, q2⟩ := K.g1 hgx
            have e0 : lessB [] g' = true := by cases g' <;> first | exact absurd rfl q2 | rfl
            simp only
            rw [if_pos e0]
            cases hkg : lessB (g ++ mx) g' with
            | true => rw [if_pos rfl]
            | false =>
              exfalso
              -- k0 begins with g', or g' lies above g with g' ahead of g ++ mx
              have hb' : Beg (g ++ mx) g' := beg_from q1 hkg hlt
              obtain ⟨r, hr⟩ := hb'
              rcases List.append_eq_append_iff.1 hr with ⟨u, hu, _⟩ | ⟨u, hu, _⟩
              · -- g' = g ++ u: x begins with g
                obtain ⟨s, hs⟩ := q1
                exact hall x hx ⟨u ++ s, by rw [hs, hu, List.append_assoc]⟩
              · -- g = g' ++ u: k0 begins with g', so its group is g'
                obtain ⟨s, hs⟩ := (K.g1 hg).1
                have := K.g2 (k' := k0) hgx ⟨u ++ s, by rw [hs, hu, List.append_assoc]⟩
                rw [hg] at this
                cases this
                exact hall x hx q1
        · rfl
      have : (o :: os).filterMap (cand K (g ++ mx)) = (o :: os).filterMap (cand K []) := by
        exact fm_congr hsame
      rw [this]
      refine dl_last _ _ _ fun r hr hgr => ?_
      obtain ⟨x, hx, hc⟩ := List.mem_filterMap.1 hr
      obtain ⟨q1, q2⟩ := cand_group hc hgr
      exact ⟨fun e => by rw [e] at q1; exact hall x hx (K.g1 q1).1, q2⟩
/-- the rows behind a row are those behind where it says -/
theorem rows_next (K : Kit V) (mx : Tx) (hm : mx ≠ []) : ∀ (os pre : List (Tx × V)) (last : Tx) (A B : List (Rw V)) (x : Rw V), Asc (pre ++ os) →
    (last = [] ∨ ∃ k0, K.G k0 = some last ∧ ∀ o ∈ os, lessB k0 o.1 = true) →
    dl last (os.filterMap (cand K [])) = A ++ x :: B → (x.2.1 = true → ∀ o ∈ pre ++ os, Beg o.1 x.1 → lessB o.1 (x.1 ++ mx) = true) → rowsF K (pre ++ os) (aft mx x) = B
  | [], pre, last, A, B, x, _, _, h, _ => by simp [dl] at h
  | o :: os, pre, last, A, B, x, ha, hl, h, hf => by
    have ha2 : Asc ((pre ++ [o]) ++ os) := by simpa using ha
    have haos := (List.pairwise_append.1 ha2).2.1
    have hlt : ∀ y ∈ os, lessB o.1 y.1 = true := fun y hy => (List.pairwise_append.1 ha2).2.2 o (by simp) y hy
    have hpre : ∀ y ∈ pre, lessB y.1 o.1 = true := fun y hy => (List.pairwise_append.1 ha).2.2 y hy o (by simp)
    have hl' : last = [] ∨ ∃ k0, K.G k0 = some last ∧ ∀ o ∈ os, lessB k0 o.1 = true := hl.imp id fun ⟨k0, a, b⟩ => ⟨k0, a, fun y hy => b y (List.mem_cons_of_mem _ hy)⟩
    have hf2 : x.2.1 = true → ∀ y ∈ (pre ++ [o]) ++ os, Beg y.1 x.1 → lessB y.1 (x.1 ++ mx) = true := fun hx y hy => hf hx y (by simpa using hy)
    have hs : pre ++ o :: os = (pre ++ [o]) ++ os := by simp
    -- what is at o or ahead of it tells nothing behind o's own row
    cases hc : cand K [] o with
    | none =>
      rw [List.filterMap_cons_none hc] at h
      rw [hs]
      exact rows_next K mx hm os (pre ++ [o]) last A B x ha2 hl' h hf2
    | some r =>
      rw [List.filterMap_cons_some hc] at h
      cases hr : r.2.1 with
      | false =>
        rw [dl, if_neg (by rw [hr]; simp)] at h
        cases A with
        | cons a A =>
          rw [List.cons_append] at h
          injection h with _ h
          rw [hs]
          exact rows_next K mx hm os (pre ++ [o]) last A B x ha2 hl' h hf2
        | nil =>
          rw [List.nil_append] at h
          injection h with h0 h
          subst h0
          obtain ⟨hg, he⟩ := cand_key hc hr
          have haf : aft mx r = o.1 := by unfold aft; rw [if_neg (by rw [hr]; simp), he]
          rw [haf]
          unfold rowsF
          have e1 : (pre ++ o :: os).filterMap (cand K o.1) = os.filterMap (cand K []) := by
            rw [List.filterMap_append, List.filterMap_cons_none (cand_ahead (lessB_irrefl o.1))]
            rw [List.filterMap_eq_nil_iff.2 fun y hy => cand_ahead (lessB_asymm (hpre y hy)), List.nil_append]
            exact fm_congr fun y hy => cand_behind hg (hlt y hy)
          rw [e1, ← h]
          refine dl_last _ _ _ fun y hy hgy => ?_
          obtain ⟨z, hz, hcz⟩ := List.mem_filterMap.1 hy
          obtain ⟨q1, q2⟩ := cand_group hcz hgy
          refine ⟨q2, fun e => ?_⟩
          rcases hl with hl | ⟨k0, k1, k2⟩
          · exact q2 (e.trans hl)
          · rw [e] at q1
            have hb := beg_between (K.g1 k1).1 (K.g1 q1).1 (k2 o (by simp)) (hlt z hz)
            rw [K.g2 k1 hb] at hg
            exact absurd hg (by simp)
      | true =>
        obtain ⟨hg, hne⟩ := cand_group hc hr
        rw [dl, if_pos hr] at h
        by_cases hrl : r.1 = last
        · rw [if_pos hrl] at h
          rw [hs]
          exact rows_next K mx hm os (pre ++ [o]) last A B x ha2 hl' h hf2
        · rw [if_neg hrl] at h
          cases A with
          | cons a A =>
            rw [List.cons_append] at h
            injection h with _ h
            rw [hs]
            exact rows_next K mx hm os (pre ++ [o]) r.1 A B x ha2 (.inr ⟨o.1, hg, hlt⟩) h hf2
          | nil =>
            rw [List.nil_append] at h
            injection h with h0 h
            subst h0
            have haf : aft mx r = r.1 ++ mx := by unfold aft; rw [if_pos hr]
            rw [haf]
            unfold rowsF
            have ho : lessB o.1 (r.1 ++ mx) = true := hf hr o (by simp) (K.g1 hg).1
            have e1 : (pre ++ o :: os).filterMap (cand K (r.1 ++ mx)) = os.filterMap (cand K (r.1 ++ mx)) := by
              rw [List.filterMap_append, List.filterMap_cons_none (cand_ahead (lessB_asymm ho))]
              rw [List.filterMap_eq_nil_iff.2 fun y hy => cand_ahead (lessB_asymm (lessB_trans (hpre y hy) ho)), List.nil_append]
            rw [e1, ← h]
            exact (rows_group K mx r.1 hm os o.1 haos hg hlt fun y hy => hf hr y (by simp [hy])).symm
end Go.Proofs.Ytapaenfafjmljaa.V

/- Lists: versions, page by page: plain law. Nothing of the program is in it. -/
namespace Go.Proofs.Ytapaenfafjmljaa.V
open Go
set_option linter.unusedVariables false
set_option linter.unusedSimpArgs false
variable {V : Type}
/-- a row: a key, the version, is it the newest -/
abbrev Vr (V : Type) := Tx × V × Bool
/-- an object's rows, the newest first -/
def revRows (k : Tx) (vs : List V) : List (Vr V) := match vs.reverse with
  | [] => []
  | v :: r => (k, v, true) :: r.map fun x => (k, x, false)
/-- is a row behind a spot? as the program asks, and as the document says -/
def keepP (fk : Tx) (fi : Int) (k : Tx) (i : Int) : Bool := !lessB k fk && !(!(fk == []) && (k == fk && decide (i ≥ fi)))
def keepR (fk : Tx) (fi : Int) (k : Tx) (i : Int) : Bool := fk == [] || (lessB fk k || (k == fk && decide (i < fi)))
theorem keep_eq (fk : Tx) (fi : Int) (k : Tx) (i : Int) : keepP fk fi k i = keepR fk fi k i := by
  unfold keepP keepR
  cases hf : fk == [] with
  | true =>
    rw [eq_of_beq hf, lessB_nil]; rfl
  | false =>
    cases h1 : lessB k fk with
    | true =>
      rw [lessB_asymm h1]
      have : (k == fk) = false := beq_eq_false_iff_ne.2 fun e => by rw [e, lessB_irrefl] at h1; exact absurd h1 (by simp)
      rw [this]; rfl
    | false =>
      cases h2 : k == fk with
      | true =>
        rw [eq_of_beq h2, lessB_irrefl]
        by_cases hi : i < fi
        · rw [decide_eq_true hi, decide_eq_false (show ¬ i ≥ fi by omega)]; rfl
        · rw [decide_eq_false hi, decide_eq_true (show i ≥ fi by omega)]; rfl
      | false =>
        cases h3 : lessB fk k with
        | true => rfl
        | false => rw [lessB_tri h1 h3, beq_self_eq_true] at h2; exact absurd h2 (by simp)
/-- all rows behind a spot -/
def rowsV (pre : Tx → Bool) (id : V → Int) (os : List (Tx × List V)) (fk : Tx) (fi : Int) : List (Vr V) :=
  os.flatMap fun o => bif pre o.1 then (revRows o.1 o.2).filter fun r => keepR fk fi r.1 (id r.2.1) else []
theorem rowsV_filter (pre : Tx → Bool) (id : V → Int) (fk : Tx) (fi : Int) : ∀ os : List (Tx × List V), rowsV pre id os fk fi = (rowsV pre id os [] 0).filter fun r => keepR fk fi r.1 (id r.2.1)
  | [] => rfl
  | o :: os => by
    unfold rowsV
    rw [List.flatMap_cons, List.flatMap_cons, List.filter_append]
    have ih := rowsV_filter pre id fk fi os
    unfold rowsV at ih
    rw [ih]
    congr 1
    cases pre o.1 with
    | false => rfl
    | true =>
      rw [cond_true, cond_true, List.filter_filter]
      congr 1
      funext r
      have : keepR [] 0 r.1 (id r.2.1) = true := rfl
      rw [this, Bool.and_true]
/-- one row stands ahead of another -/
def ahd (id : V → Int) (r s : Vr V) : Prop := lessB r.1 s.1 = true ∨ (r.1 = s.1 ∧ id s.2.1 < id r.2.1)
theorem mem_rev {k : Tx} {vs : List V} {r : Vr V} (h : r ∈ revRows k vs) : r.1 = k ∧ r.2.1 ∈ vs := by
  unfold revRows at h
  split at h
  · simp at h
  · rename_i v t hv
    have hmem : ∀ x, x ∈ v :: t → x ∈ vs := fun x hx => by rw [← hv] at hx; exact List.mem_reverse.1 hx
    rcases List.mem_cons.1 h with rfl | h
    · exact ⟨rfl, hmem v (by simp)⟩
    · obtain ⟨x, hx, rfl⟩ := List.mem_map.1 h
      exact ⟨rfl, hmem x (by simp [hx])⟩
theorem rev_ahd (id : V → Int) (k : Tx) {vs : List V} (h : vs.Pairwise fun a b => id a < id b) : (revRows k vs).Pairwise (ahd id) := by
  unfold revRows
  have hr : vs.reverse.Pairwise fun a b => id b < id a := List.pairwise_reverse.2 h
  revert hr
  cases vs.reverse with
  | nil => intro _; exact List.Pairwise.nil
  | cons v t =>
    intro hr
    obtain ⟨h1, h2⟩ := List.pairwise_cons.1 hr
    refine List.pairwise_cons.2 ⟨fun s hs => ?_, ?_⟩
    · obtain ⟨x, hx, rfl⟩ := List.mem_map.1 hs
      exact .inr ⟨rfl, h1 x hx⟩
    · rw [List.pairwise_map]
      exact h2.imp fun h => .inr ⟨rfl, h⟩
theorem rows_ahd (pre : Tx → Bool) (id : V → Int) : ∀ {os : List (Tx × List V)}, (os.Pairwise fun a b => lessB a.1 b.1 = true) → (∀ o ∈ os, o.2.Pairwise fun a b => id a < id b) → (rowsV pre id os [] 0).Pairwise (ahd id)
  | [], _, _ => List.Pairwise.nil
  | o :: os, ha, hi => by
    obtain ⟨h1, h2⟩ := List.pairwise_cons.1 ha
    unfold rowsV
    rw [List.flatMap_cons, List.pairwise_append]
    have ih := rows_ahd pre id h2 fun x hx => hi x (List.mem_cons_of_mem _ hx)
    have hk : ∀ r ∈ (bif pre o.1 then (revRows o.1 o.2).filter fun r => keepR [] 0 r.1 (id r.2.1) else []), r.1 = o.1 := by
      intro r hr
      cases hp : pre o.1 with
      | false => rw [hp] at hr; simp at hr
      | true => rw [hp] at hr; exact (mem_rev (List.mem_filter.1 hr).1).1
    refine ⟨?_, ih, fun r hr s hs => .inl ?_⟩
    · cases pre o.1 with
      | false => exact List.Pairwise.nil
      | true => exact (rev_ahd id o.1 (hi o (by simp))).filter _
    · rw [hk r hr]
      obtain ⟨x, hx, hs⟩ := List.mem_flatMap.1 hs
      have : s.1 = x.1 := by
        cases hp : pre x.1 with
        | false => rw [hp] at hs; simp at hs
        | true => rw [hp] at hs; exact (mem_rev (List.mem_filter.1 hs).1).1
      rw [this]
      exact h1 x hx
/-- what stands behind one of them -/
theorem filter_behind {α : Type} {rel : α → α → Prop} {p : α → Bool} {x : α} : ∀ {A B : List α}, (A ++ x :: B).Pairwise rel → (∀ a, rel a x → p a = false) → p x = false → (∀ b, rel x b → p b = true) → (A ++ x :: B).filter p = B
  | [], B, h, h1, h2, h3 => by
    rw [List.nil_append, List.filter_cons_of_neg (by rw [h2]; simp)]
    exact List.filter_eq_self.2 fun b hb => h3 b ((List.pairwise_cons.1 h).1 b hb)
  | a :: A, B, h, h1, h2, h3 => by
    obtain ⟨g1, g2⟩ := List.pairwise_cons.1 h
    rw [List.cons_append, List.filter_cons_of_neg (by rw [h1 a (g1 x (by simp))]; simp)]
    exact filter_behind g2 h1 h2 h3
/-- the rows behind a row are those behind its spot -/
theorem versions_next (pre : Tx → Bool) (id : V → Int) {os : List (Tx × List V)} (ha : os.Pairwise fun a b => lessB a.1 b.1 = true) (hi : ∀ o ∈ os, o.2.Pairwise fun a b => id a < id b)
    {A B : List (Vr V)} {x : Vr V} (h : rowsV pre id os [] 0 = A ++ x :: B) (hx : x.1 ≠ []) : rowsV pre id os x.1 (id x.2.1) = B := by
  have hp := rows_ahd pre id ha hi
  rw [rowsV_filter, h]
  rw [h] at hp
  refine filter_behind hp (fun a ha => ?_) ?_ (fun b hb => ?_)
  · unfold keepR
    rw [beq_eq_false_iff_ne.2 hx, Bool.false_or]
    rcases ha with ha | ⟨ha, hi⟩
    · rw [lessB_asymm ha, beq_eq_false_iff_ne.2 fun e => by rw [e, lessB_irrefl] at ha; exact absurd ha (by simp)]; rfl
    · rw [ha, lessB_irrefl, decide_eq_false (by omega)]; simp
  · unfold keepR
    rw [beq_eq_false_iff_ne.2 hx, lessB_irrefl, decide_eq_false (by omega)]; simp
  · unfold keepR
    rcases hb with hb | ⟨hb, hi⟩
    · rw [hb]; simp
    · rw [← hb, beq_self_eq_true, decide_eq_true hi]; simp
end Go.Proofs.Ytapaenfafjmljaa.V

/- Lists: a key's group; pages by number: plain law. Nothing of the program is in it. -/
namespace Go.Proofs.Ytapaenfafjmljaa.V
open Go
set_option linter.unusedVariables false
set_option linter.unusedSimpArgs false
variable {V : Type}
/-! ### pages -/
theorem split_at {α : Type} {l : List α} {j : Nat} {x : α} (h : l[j]? = some x) : l = l.take j ++ x :: l.drop (j + 1) := by
  obtain ⟨hj, he⟩ := List.getElem?_eq_some_iff.1 h
  rw [← he, ← List.drop_eq_getElem_cons hj, List.take_append_drop]
theorem rows_drop (K : Kit V) (mx : Tx) (hm : mx ≠ []) {os : List (Tx × V)} (ha : Asc os) {j : Nat} {x : Rw V} (h : (rowsF K os [])[j]? = some x) (hf : x.2.1 = true → ∀ o ∈ os, Beg o.1 x.1 → lessB o.1 (x.1 ++ mx) = true) :
    rowsF K os (aft mx x) = (rowsF K os []).drop (j + 1) :=
  rows_next K mx hm os [] [] _ _ x ha (.inl rfl) (split_at h) hf
theorem versions_drop (pre : Tx → Bool) (id : V → Int) {os : List (Tx × List V)} (ha : os.Pairwise fun a b => lessB a.1 b.1 = true) (hi : ∀ o ∈ os, o.2.Pairwise fun a b => id a < id b)
    {j : Nat} {x : Vr V} (h : (rowsV pre id os [] 0)[j]? = some x) (hx : x.1 ≠ []) : rowsV pre id os x.1 (id x.2.1) = (rowsV pre id os [] 0).drop (j + 1) :=
  versions_next pre id ha hi (split_at h) hx
/-- no more rows than objects -/
theorem dl_len : ∀ (C : List (Rw V)) (l : Tx), (dl l C).length ≤ C.length
  | [], _ => Nat.le_refl _
  | r :: C, l => by
    rw [dl]
    have h1 := dl_len C l
    have h2 := dl_len C r.1
    split
    · split
      · simp; omega
      · simp; omega
    · simp; omega
theorem fmp_len {α β : Type} (f : α → Option β) : ∀ l : List α, (l.filterMap f).length ≤ l.length
  | [] => Nat.le_refl _
  | a :: l => by
    have ih := fmp_len f l
    cases h : f a with
    | none => rw [List.filterMap_cons_none h]; simp; omega
    | some b => rw [List.filterMap_cons_some h]; simp; omega
theorem rows_len (K : Kit V) (os : List (Tx × V)) (af : Tx) : (rowsF K os af).length ≤ os.length := Nat.le_trans (dl_len _ _) (fmp_len _ _)
/-! ### a group -/
/-- what stands up to the first mark, with it -/
def gz : Tx → Tx → Option Tx
  | [], _ => none
  | b :: r, m => if m.isPrefixOf (b :: r) = true then some m else (gz r m).map (b :: ·)
theorem pre_beg {m s : Tx} : m.isPrefixOf s = true ↔ Beg s m := by
  rw [List.isPrefixOf_iff_prefix]
  exact ⟨fun ⟨r, h⟩ => ⟨r, h.symm⟩, fun ⟨r, h⟩ => ⟨r, h.symm⟩⟩
theorem gz_beg : ∀ {r m q : Tx}, gz r m = some q → Beg r q ∧ m.length ≤ q.length
  | [], m, q, h => by rw [gz] at h; exact absurd h (by simp)
  | b :: r, m, q, h => by
    rw [gz] at h
    by_cases hp : m.isPrefixOf (b :: r) = true
    · rw [if_pos hp] at h
      cases h
      exact ⟨pre_beg.1 hp, Nat.le_refl _⟩
    · rw [if_neg hp] at h
      obtain ⟨q1, h1, rfl⟩ := Option.map_eq_some_iff.1 h
      obtain ⟨g1, g2⟩ := gz_beg h1
      exact ⟨beg_cons.2 ⟨rfl, g1⟩, by simp; omega⟩
/-- what begins with it has the same -/
theorem gz_same : ∀ {r m q r' : Tx}, m ≠ [] → gz r m = some q → Beg r' q → gz r' m = some q
  | [], m, q, r', _, h, _ => by rw [gz] at h; exact absurd h (by simp)
  | b :: r, m, q, r', hm, h, hb => by
    obtain ⟨h1, h2⟩ := gz_beg h
    rw [gz] at h
    by_cases hp : m.isPrefixOf (b :: r) = true
    · rw [if_pos hp] at h
      cases h
      cases r' with
      | nil =>
        obtain ⟨t, ht⟩ := hb
        exact absurd (List.append_eq_nil_iff.1 ht.symm).1 hm
      | cons c r' => rw [gz, if_pos (pre_beg.2 hb)]
    · rw [if_neg hp] at h
      obtain ⟨q1, e1, rfl⟩ := Option.map_eq_some_iff.1 h
      cases r' with
      | nil => exact absurd hb not_beg
      | cons c r' =>
        obtain ⟨rfl, hb'⟩ := beg_cons.1 hb
        have hn : ¬ m.isPrefixOf (c :: r') = true := by
          intro hq
          apply hp
          obtain ⟨t, ht⟩ := pre_beg.1 hq
          obtain ⟨u, hu⟩ := hb
          obtain ⟨w, hw⟩ := h1
          -- m is no longer than c :: q1, and both stand at the head of c :: r'
          have : Beg (c :: q1) m := by
            rw [hu] at ht
            rcases List.append_eq_append_iff.1 ht with ⟨x, hx, _⟩ | ⟨x, hx, _⟩
            · have hx0 : x = [] := by
                have := congrArg List.length hx
                rw [List.length_append] at this
                exact List.length_eq_zero_iff.1 (by omega)
              exact ⟨[], by rw [hx, hx0]; simp⟩
            · exact ⟨x, hx⟩
          obtain ⟨y, hy⟩ := this
          exact pre_beg.2 ⟨y ++ w, by rw [hw, hy, List.append_assoc]⟩
        rw [gz, if_neg hn, gz_same hm e1 hb']
        rfl
/-- a key's group -/
def grpO (k p m : Tx) : Option Tx := if m = [] then none else if p.isPrefixOf k = true then (gz (k.drop p.length) m).map (p ++ ·) else none
theorem beg_drop {k p : Tx} (h : p.isPrefixOf k = true) : k = p ++ k.drop p.length := by
  obtain ⟨r, hr⟩ := pre_beg.1 h
  rw [hr, List.drop_left]
theorem grp_g1 {k p m g : Tx} (h : grpO k p m = some g) : Beg k g ∧ g ≠ [] := by
  unfold grpO at h
  split at h
  · exact absurd h (by simp)
  · rename_i hm
    split at h
    · rename_i hp
      obtain ⟨q, hq, rfl⟩ := Option.map_eq_some_iff.1 h
      obtain ⟨⟨t, ht⟩, h2⟩ := gz_beg hq
      refine ⟨⟨t, ?_⟩, fun e => ?_⟩
      · rw [List.append_assoc, ← ht]; exact beg_drop hp
      · have := (List.append_eq_nil_iff.1 e).2
        rw [this] at h2
        exact hm (List.length_eq_zero_iff.1 (by simpa using h2))
    · exact absurd h (by simp)
theorem grp_g2 {k k' p m g : Tx} (h : grpO k p m = some g) (hb : Beg k' g) : grpO k' p m = some g := by
  unfold grpO at h ⊢
  split at h
  · exact absurd h (by simp)
  · rename_i hm
    rw [if_neg hm]
    split at h
    · rename_i hp
      obtain ⟨q, hq, rfl⟩ := Option.map_eq_some_iff.1 h
      obtain ⟨t, rfl⟩ := hb
      rw [if_pos (pre_beg.2 ⟨q ++ t, List.append_assoc _ _ _⟩), List.append_assoc, List.drop_left, gz_same hm hq ⟨t, rfl⟩]
      rfl
    · exact absurd h (by simp)
/-- as strings.Cut tells it -/
theorem gz_cut : ∀ (r m : Tx), m ≠ [] → gz r m = if (Lib.cut r m).2.2 = true then some ((Lib.cut r m).1 ++ m) else none
  | [], m, hm => by
    have : Lib.index [] m = -1 := by
      unfold Lib.index
      cases m with
      | nil => exact absurd rfl hm
      | cons _ _ => rfl
    unfold Lib.cut
    rw [this]; rfl
  | b :: r, m, hm => by
    have ih := gz_cut r m hm
    have hge := Lib.index_ge r m
    rw [gz]
    unfold Lib.cut at ih ⊢
    rw [Lib.index]
    by_cases hp : m.isPrefixOf (b :: r) = true
    · rw [if_pos hp, if_pos hp]; rfl
    · rw [if_neg hp, if_neg hp]
      by_cases h1 : Lib.index r m = -1
      · rw [h1] at ih ⊢
        rw [ih]; rfl
      · have h2 : (Lib.index r m == -1) = false := by simpa using h1
        rw [h2]
        rw [if_pos (show 0 ≤ Lib.index r m by omega)] at ih
        simp only [Bool.false_eq_true, if_false]
        rw [if_pos (show 0 ≤ Lib.index r m + 1 by omega), ih]
        simp only [if_true, Option.map_some]
        rw [show (Lib.index r m + 1).toNat = (Lib.index r m).toNat + 1 by omega, List.take_succ_cons]
        rfl
end Go.Proofs.Ytapaenfafjmljaa.V

/- Lists: the rows of a bucket's objects, as data; a page of them: plain law. -/
namespace Go.Proofs.Ytapaenfafjmljaa.V
open Go
set_option linter.unusedVariables false
set_option linter.unusedSimpArgs false
theorem hp_pre (s p : Tx) : hpB s p = p.isPrefixOf s := by
  cases h : p.isPrefixOf s with
  | true =>
    obtain ⟨r, rfl⟩ := pre_beg.1 h
    unfold hpB
    rw [decide_eq_true (by simp), List.take_left' rfl, beq_self_eq_true]; rfl
  | false =>
    cases h2 : hpB s p with
    | false => rfl
    | true =>
      unfold hpB at h2
      simp only [Bool.and_eq_true, decide_eq_true_eq, beq_iff_eq] at h2
      have : Beg s p := ⟨s.drop p.length, by
        have := List.take_append_drop p.length s
        rw [h2.2] at this; exact this.symm⟩
      rw [pre_beg.2 this] at h; exact absurd h (by simp)
def v00 : Ver := ⟨0, false, 0, 0, [D.int .u8 0, D.int .u8 0, D.int .u8 0, D.int .u8 0, D.int .u8 0, D.int .u8 0, D.int .u8 0, D.int .u8 0, D.int .u8 0, D.int .u8 0, D.int .u8 0, D.int .u8 0, D.int .u8 0, D.int .u8 0, D.int .u8 0, D.int .u8 0, D.int .u8 0, D.int .u8 0, D.int .u8 0, D.int .u8 0, D.int .u8 0, D.int .u8 0, D.int .u8 0, D.int .u8 0, D.int .u8 0, D.int .u8 0, D.int .u8 0, D.int .u8 0, D.int .u8 0, D.int .u8 0, D.int .u8 0, D.int .u8 0], 0, 0, 0, false, .nl, []⟩
theorem v00_eq : vD v00 = v0 := rfl
def kitV (p m : Tx) : Kit Ver := { pre := fun k => hpB k p, mark := fun v => v.mr, G := fun k => grpO k p m, v0 := v00, g1 := fun h => grp_g1 h, g2 := fun h hb => grp_g2 h hb }
def oP (o : D) : Tx × List Ver := (oKey o, vsOf (oVs o))
def lastV (vs : List Ver) : Ver := vs.getLast?.getD v00
def kvO (o : D) : Tx × Ver := (oKey o, lastV (vsOf (oVs o)))
/-! ### rows -/
def mkRow (k : Tx) (g : Bool) (v : D) (l : Bool) : D := .agg [.str k, .bool g, v, .bool l]
def rowP (r : Rw Ver) : D := bif r.2.1 then mkRow r.1 true v0 false else mkRow r.1 false (cloneD (vD r.2.2)) true
def rowR (r : Rw Ver) : D := bif r.2.1 then mkRow r.1 true v0 false else mkRow r.1 false (vD r.2.2) true
def rowVP (r : Vr Ver) : D := mkRow r.1 false (cloneD (vD r.2.1)) r.2.2
def rowVR (r : Vr Ver) : D := mkRow r.1 false (vD r.2.1) r.2.2
/-! ### a page -/
/-- rows are added while there is room -/
def addAll {α : Type} (n : Nat) : List α → List α → List α × Bool
  | L, [] => (L, false)
  | L, r :: R => if L.length = n then (L, true) else addAll n (L ++ [r]) R
theorem addAll_eq {α : Type} (n : Nat) : ∀ (R L : List α), L.length ≤ n → addAll n L R = ((L ++ R).take n, decide (n < (L ++ R).length))
  | [], L, h => by
    rw [addAll, List.append_nil, List.take_of_length_le h, decide_eq_false (by omega)]
  | r :: R, L, h => by
    rw [addAll]
    by_cases hl : L.length = n
    · rw [if_pos hl, decide_eq_true (by rw [List.length_append, List.length_cons]; omega), List.take_left' hl]
    · rw [if_neg hl, addAll_eq n R (L ++ [r]) (by rw [List.length_append, List.length_singleton]; omega)]
      simp
/-- the program's way with keys -/
def goK (K : Kit Ver) (af : Tx) (n : Nat) : List D → Tx → List (Rw Ver) → List (Rw Ver) × Bool
  | [], _, L => (L, false)
  | o :: os, last, L => match cand K af (kvO o) with
    | none => goK K af n os last L
    | some r => if r.2.1 = true ∧ r.1 = last then goK K af n os last L
      else if L.length = n then (L, true) else goK K af n os (if r.2.1 = true then r.1 else last) (L ++ [r])
theorem goK_eq (K : Kit Ver) (af : Tx) (n : Nat) : ∀ (os : List D) (last : Tx) (L : List (Rw Ver)), goK K af n os last L = addAll n L (dl last ((os.map kvO).filterMap (cand K af)))
  | [], last, L => rfl
  | o :: os, last, L => by
    rw [goK, List.map_cons]
    cases hc : cand K af (kvO o) with
    | none => rw [List.filterMap_cons_none hc]; exact goK_eq K af n os last L
    | some r =>
      rw [List.filterMap_cons_some hc, dl]
      simp only
      cases hr : r.2.1 with
      | false =>
        rw [if_neg (show ¬ (false = true ∧ r.1 = last) by simp), if_neg (show ¬ (false = true) by simp), if_neg (show ¬ (false = true) by simp), addAll]
        split
        · rfl
        · exact goK_eq K af n os last (L ++ [r])
      | true =>
        simp only [true_and, if_true]
        by_cases hl : r.1 = last
        · rw [if_pos hl, if_pos hl]; exact goK_eq K af n os last L
        · rw [if_neg hl, if_neg hl, addAll]
          split
          · rfl
          · exact goK_eq K af n os r.1 (L ++ [r])
/-! ### sameness -/
def sameVer (v w : Ver) : Bool := v.id == w.id && (v.mr == w.mr && (v.sz == w.sz && (v.bl == w.bl && (v.cr == w.cr && (eqD (lkV v) (lkV w) && (eqD (.agg v.dg) (.agg w.dg) && sameT v.tg w.tg))))))
theorem eqDs_u8 : ∀ {l : List D}, l.all isU8 = true → eqDs l l = true
  | [], _ => by simp [eqDs]
  | d :: r, h => by
    have h : isU8 d = true ∧ r.all isU8 = true := by simpa using h
    have ih := eqDs_u8 h.2
    unfold isU8 at h
    split at h
    · simp [eqDs, eqD, ih]
    · exact absurd h.1 (by simp)
theorem sameVer_self {v : Ver} (h : v.dg.all isU8 = true) (c : Cp) : sameVer { v with c := c } v = true ∧ sameVer v { v with c := c } = true ∧ sameVer v v = true := by
  have e1 : eqD (lkV v) (lkV v) = true := by simp [lkV, eqD, eqDs]
  have e2 : eqD (.agg v.dg) (.agg v.dg) = true := by simp [eqD, eqDs_u8 h]
  have e3 : sameT v.tg v.tg = true := by unfold sameT; exact beq_self_eq_true _
  have : sameVer v v = true := by
    unfold sameVer
    rw [e1, e2, e3]; simp
  exact ⟨this, this, this⟩
end Go.Proofs.Ytapaenfafjmljaa.V

/- Lists: rows held against rows: plain law. -/
namespace Go.Proofs.Ytapaenfafjmljaa.V
open Go
set_option linter.unusedVariables false
set_option linter.unusedSimpArgs false
def sameVD (d e : D) : Bool := match vOf d, vOf e with | some v, some w => sameVer v w | _, _ => false
def rowS : D → D → Bool
  | .agg [.str k, .bool g, v, .bool l], .agg [.str k', .bool g', v', .bool l'] => (k == k') && ((g == g') && ((l == l') && sameVD v v'))
  | _, _ => false
def rowsS : List D → List D → Bool
  | [], [] => true
  | x :: a, y :: b => rowS x y && rowsS a b
  | _, _ => false
theorem rowsS_map {α : Type} {f g : α → D} : ∀ {l : List α}, (∀ x ∈ l, rowS (f x) (g x) = true) → rowsS (l.map f) (l.map g) = true
  | [], _ => rfl
  | x :: l, h => by
    rw [List.map_cons, List.map_cons, rowsS, h x (by simp), rowsS_map fun y hy => h y (List.mem_cons_of_mem _ hy)]; rfl
theorem rowS_mk (k : Tx) (g l : Bool) (v w : D) (h : sameVD v w = true) : rowS (mkRow k g v l) (mkRow k g w l) = true := by
  show ((k == k) && ((g == g) && ((l == l) && sameVD v w))) = true
  rw [h, beq_self_eq_true, beq_self_eq_true, beq_self_eq_true]; rfl
theorem sameVD_clone {v : Ver} (h : v.dg.all isU8 = true) : sameVD (cloneD (vD v)) (vD v) = true ∧ sameVD (vD v) (vD v) = true ∧ sameVD (cloneD (vD v)) (cloneD (vD v)) = true :=
  ⟨(sameVer_self h .cl).1, (sameVer_self h .cl).2.2, (sameVer_self (v := { v with c := .cl }) h .cl).2.2⟩
theorem sameVD_v0 : sameVD v0 v0 = true := (sameVer_self (v := v00) (by decide) .nl).2.2
/-- a version's digest is of bytes -/
def okV (v : Ver) : Prop := v.dg.all isU8 = true
theorem rowS_key {r : Rw Ver} (h : okV r.2.2) : rowS (rowP r) (rowR r) = true ∧ rowS (rowP r) (rowP r) = true := by
  unfold rowP rowR
  cases r.2.1 with
  | true => exact ⟨rowS_mk _ _ _ _ _ sameVD_v0, rowS_mk _ _ _ _ _ sameVD_v0⟩
  | false => exact ⟨rowS_mk _ _ _ _ _ (sameVD_clone h).1, rowS_mk _ _ _ _ _ (sameVD_clone h).2.2⟩
theorem rowS_ver {r : Vr Ver} (h : okV r.2.1) : rowS (rowVP r) (rowVR r) = true ∧ rowS (rowVP r) (rowVP r) = true :=
  ⟨rowS_mk _ _ _ _ _ (sameVD_clone h).1, rowS_mk _ _ _ _ _ (sameVD_clone h).2.2⟩
/-! ### what rows there are -/
theorem dl_mem {V : Type} : ∀ {C : List (Rw V)} {l : Tx} {r : Rw V}, r ∈ dl l C → r ∈ C
  | [], l, r, h => by simp [dl] at h
  | x :: C, l, r, h => by
    rw [dl] at h
    split at h
    · split at h
      · exact List.mem_cons_of_mem _ (dl_mem h)
      · rcases List.mem_cons.1 h with rfl | h
        · simp
        · exact List.mem_cons_of_mem _ (dl_mem h)
    · rcases List.mem_cons.1 h with rfl | h
      · simp
      · exact List.mem_cons_of_mem _ (dl_mem h)
theorem okV_00 : okV v00 := by unfold okV; decide
theorem rowsF_okV {p m af : Tx} {os : List (Tx × Ver)} (h : ∀ o ∈ os, okV o.2) : ∀ r ∈ rowsF (kitV p m) os af, okV r.2.2 := by
  intro r hr
  obtain ⟨o, ho, hc⟩ := List.mem_filterMap.1 (dl_mem hr)
  cases hg : r.2.1 with
  | false => rw [(cand_key hc hg).2]; exact h o ho
  | true =>
    unfold cand at hc
    split at hc
    · split at hc
      · split at hc
        · cases hc; exact okV_00
        · exact absurd hc (by simp)
      · cases hc; exact absurd hg (by simp)
    · exact absurd hc (by simp)
theorem rowsV_okV {pre : Tx → Bool} {fk : Tx} {fi : Int} {os : List (Tx × List Ver)} (h : ∀ o ∈ os, ∀ v ∈ o.2, okV v) : ∀ r ∈ rowsV pre Ver.id os fk fi, okV r.2.1 ∧ ∃ o ∈ os, r.1 = o.1 := by
  intro r hr
  obtain ⟨o, ho, hr⟩ := List.mem_flatMap.1 hr
  cases hp : pre o.1 with
  | false => rw [hp] at hr; simp at hr
  | true =>
    rw [hp] at hr
    obtain ⟨h1, h2⟩ := mem_rev (List.mem_filter.1 hr).1
    exact ⟨h o ho _ h2, o, ho, h1⟩
/-- a page of the program's rows and one of the document's -/
theorem page_same {α : Type} {f g : α → D} {l : List α} (n : Nat) (h : ∀ x ∈ l, rowS (f x) (g x) = true) : rowsS ((l.take n).map f) ((l.take n).map g) = true :=
  rowsS_map fun x hx => h x (List.mem_of_mem_take hx)
end Go.Proofs.Ytapaenfafjmljaa.V
