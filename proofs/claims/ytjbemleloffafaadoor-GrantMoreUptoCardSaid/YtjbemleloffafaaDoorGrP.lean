/- Patterns: plain laws over lists, no program in sight: which texts match; by greed, and by a table. -/
import Derived.Test.YtjbemleloffafaaDoorFrA
namespace Go.Proofs.YtjbemleloffafaaDoor.V
open Go
set_option maxRecDepth 100000
set_option linter.unusedVariables false
set_option linter.unusedSimpArgs false

/-- a piece: 0 a byte, 1 any one, 2 any -/
abbrev Pc := Nat × UInt8
/-- the pieces of a pattern; is it one? -/
def pcs : List UInt8 → List Pc × Bool
  | [] => ([], true)
  | c :: r =>
    if c = 42 then ((2, 0) :: (pcs r).1, (pcs r).2)
    else if c = 63 then ((1, 0) :: (pcs r).1, (pcs r).2)
    else if c = 92 then
      match r with
      | [] => ([], false)
      | d :: r' => ((0, d) :: (pcs r').1, (pcs r').2)
    else ((0, c) :: (pcs r).1, (pcs r).2)
def fit (x : Pc) (c : UInt8) : Bool := x.1 == 1 || (x.1 == 0 && x.2 == c)
def anyS (f : List UInt8 → Bool) : List UInt8 → Bool
  | [] => f []
  | c :: t => f (c :: t) || anyS f t
/-- does a text match? -/
def mt : List Pc → List UInt8 → Bool
  | [], s => s.isEmpty
  | x :: p, s => bif x.1 == 2 then anyS (mt p) s else match s with | [] => false | c :: t => fit x c && mt p t
theorem pcs_cons (c : UInt8) (r : List UInt8) : pcs (c :: r) = (if c = 42 then ((2, 0) :: (pcs r).1, (pcs r).2)
    else if c = 63 then ((1, 0) :: (pcs r).1, (pcs r).2)
    else if c = 92 then (match r with
      | [] => ([], false)
      | d :: r' => ((0, d) :: (pcs r').1, (pcs r').2))
    else ((0, c) :: (pcs r).1, (pcs r).2)) := by
  rw [pcs.eq_def]
theorem pcs_kind : ∀ (p : List UInt8), ∀ x ∈ (pcs p).1, x.1 ≤ 2
  | [], x, h => by simp [pcs] at h
  | c :: r, x, h => by
    rw [pcs_cons] at h
    split at h
    · rcases List.mem_cons.1 h with rfl | h
      · exact Nat.le_refl _
      · exact pcs_kind r x h
    · split at h
      · rcases List.mem_cons.1 h with rfl | h
        · decide
        · exact pcs_kind r x h
      · split at h
        · match r, h with
          | [], h => simp at h
          | d :: r', h =>
            rcases List.mem_cons.1 h with rfl | h
            · exact Nat.zero_le _
            · exact pcs_kind r' x h
        · rcases List.mem_cons.1 h with rfl | h
          · exact Nat.zero_le _
          · exact pcs_kind r x h
theorem pcs_len : ∀ (p : List UInt8), (pcs p).1.length ≤ p.length
  | [] => by simp [pcs]
  | c :: r => by
    rw [pcs_cons]
    split
    · have := pcs_len r; simp only [List.length_cons]; omega
    · split
      · have := pcs_len r; simp only [List.length_cons]; omega
      · split
        · match r with
          | [] => simp
          | d :: r' => have := pcs_len r'; simp only [List.length_cons]; omega
        · have := pcs_len r; simp only [List.length_cons]; omega
theorem mt_eq (x : Pc) (p : List Pc) (s : List UInt8) : mt (x :: p) s = bif x.1 == 2 then anyS (mt p) s else match s with | [] => false | c :: t => fit x c && mt p t := by
  rw [mt.eq_def]
theorem mt_cons_ne {x : Pc} (h : (x.1 == 2) = false) (p : List Pc) (s : List UInt8) : mt (x :: p) s = match s with | [] => false | c :: t => fit x c && mt p t := by
  rw [mt_eq, h]; rfl
theorem mt_cons_2 {x : Pc} (h : (x.1 == 2) = true) (p : List Pc) (s : List UInt8) : mt (x :: p) s = anyS (mt p) s := by
  rw [mt_eq, h]; rfl
theorem anyS_iff (f : List UInt8 → Bool) : ∀ s, anyS f s = true ↔ ∃ j, j ≤ s.length ∧ f (s.drop j) = true
  | [] => by
    rw [anyS]
    constructor
    · intro h; exact ⟨0, Nat.le_refl _, h⟩
    · rintro ⟨j, hj, h⟩
      have : j = 0 := by simpa using hj
      subst this; exact h
  | c :: t => by
    rw [anyS, Bool.or_eq_true, anyS_iff f t]
    constructor
    · rintro (h | ⟨j, hj, h⟩)
      · exact ⟨0, Nat.zero_le _, h⟩
      · exact ⟨j + 1, by simp only [List.length_cons]; omega, h⟩
    · rintro ⟨j, hj, h⟩
      cases j with
      | zero => exact .inl h
      | succ j => exact .inr ⟨j, by simp only [List.length_cons] at hj; omega, h⟩
/-- a row of pieces, none of which is any, fits the text's beginning -/
def segF : List Pc → List UInt8 → Bool
  | [], _ => true
  | x :: q, [] => false
  | x :: q, c :: t => !(x.1 == 2) && (fit x c && segF q t)
theorem segF_app {q : List Pc} {s : List UInt8} (h : segF q s = true) (r : List Pc) : mt (q ++ r) s = mt r (s.drop q.length) := by
  induction q generalizing s with
  | nil => rfl
  | cons x q ih =>
    cases s with
    | nil => simp [segF] at h
    | cons c t =>
      simp only [segF, Bool.and_eq_true, Bool.not_eq_true'] at h
      rw [List.cons_append, mt_cons_ne h.1]
      show (fit x c && mt (q ++ r) t) = _
      rw [h.2.1, Bool.true_and, ih h.2.2]; rfl
theorem segF_len {q : List Pc} {s : List UInt8} (h : segF q s = true) : q.length ≤ s.length := by
  induction q generalizing s with
  | nil => exact Nat.zero_le _
  | cons x q ih =>
    cases s with
    | nil => simp [segF] at h
    | cons c t =>
      simp only [segF, Bool.and_eq_true] at h
      have := ih h.2.2
      simp only [List.length_cons]; omega
theorem segF_none {q : List Pc} {s : List UInt8} (h : segF q s = true) : ∀ x ∈ q, (x.1 == 2) = false := by
  induction q generalizing s with
  | nil => intro x hx; cases hx
  | cons y q ih =>
    cases s with
    | nil => simp [segF] at h
    | cons c t =>
      simp only [segF, Bool.and_eq_true, Bool.not_eq_true'] at h
      intro x hx
      rcases List.mem_cons.1 hx with rfl | hx
      · exact h.1
      · exact ih h.2.2 x hx
/-- pieces that are none of any, in front: they take so many bytes -/
theorem mt_seg {q : List Pc} (hq : ∀ x ∈ q, (x.1 == 2) = false) (r : List Pc) (s : List UInt8) (h : mt (q ++ r) s = true) : q.length ≤ s.length ∧ mt r (s.drop q.length) = true := by
  induction q generalizing s with
  | nil => exact ⟨Nat.zero_le _, h⟩
  | cons x q ih =>
    rw [List.cons_append, mt_cons_ne (hq x (List.mem_cons_self ..))] at h
    cases s with
    | nil => simp at h
    | cons c t =>
      simp only [Bool.and_eq_true] at h
      obtain ⟨h1, h2⟩ := ih (fun y hy => hq y (List.mem_cons_of_mem _ hy)) t h.2
      exact ⟨by simp only [List.length_cons]; omega, h2⟩
theorem mt_star_mono {x : Pc} (hx : (x.1 == 2) = true) (q : List Pc) (s : List UInt8) (i j : Nat) (hij : i ≤ j) (hj : j ≤ s.length) (h : mt (x :: q) (s.drop j) = true) : mt (x :: q) (s.drop i) = true := by
  rw [mt_cons_2 hx] at h ⊢
  obtain ⟨k, hk, hm⟩ := (anyS_iff _ _).1 h
  refine (anyS_iff _ _).2 ⟨j - i + k, by rw [List.length_drop] at hk ⊢; omega, ?_⟩
  rw [List.drop_drop, show i + (j - i + k) = j + k by omega, ← List.drop_drop]; exact hm
/-- what a greedy search knows: where it is in the pieces and in the text; the last piece of any, and from where on what is behind it is tried -/
structure Inv (l : List Pc) (s : List UInt8) (at_ i : Nat) (star : Int) (fr : Nat) : Prop where
  ha : at_ ≤ l.length
  hi : i ≤ s.length
  none : star < 0 → star = -1 ∧ mt l s = mt (l.drop at_) (s.drop i)
  some : 0 ≤ star → ∃ (st : Nat) (x : Pc) (q : List Pc), star = (st : Int) ∧ (x.1 == 2) = true ∧ l.drop st = x :: (q ++ l.drop at_) ∧ at_ = st + 1 + q.length ∧ fr + q.length = i ∧ segF q (s.drop fr) = true ∧ mt l s = mt (x :: (q ++ l.drop at_)) (s.drop fr)
theorem inv_start (l : List Pc) (s : List UInt8) : Inv l s 0 0 (-1) 0 :=
  ⟨Nat.zero_le _, Nat.zero_le _, fun _ => ⟨rfl, rfl⟩, fun h => absurd h (by omega)⟩
theorem drop_cons {α : Type} {l : List α} {n : Nat} {x : α} (h : l[n]? = some x) : l.drop n = x :: l.drop (n + 1) := by
  obtain ⟨hn, rfl⟩ := List.getElem?_eq_some_iff.1 h
  exact List.drop_eq_getElem_cons hn
/-- a piece of any -/
theorem Inv.many {l : List Pc} {s : List UInt8} {at_ i fr : Nat} {star : Int} (h : Inv l s at_ i star fr) {x : Pc} (hx : l[at_]? = Option.some x) (h2 : (x.1 == 2) = true) : Inv l s (at_ + 1) i (at_ : Int) i := by
  have hd := drop_cons hx
  have ha : at_ < l.length := (List.getElem?_eq_some_iff.1 hx).1
  refine ⟨ha, h.hi, fun hn => absurd hn (by omega), fun _ => ⟨at_, x, [], rfl, h2, by rw [hd]; rfl, rfl, rfl, rfl, ?_⟩⟩
  rw [List.nil_append, ← hd]
  by_cases hs : star < 0
  · exact (h.none hs).2
  · obtain ⟨st, y, q, e1, e2, e3, e4, e5, e6, e7⟩ := h.some (by omega)
    rw [e7]
    have hq := segF_len e6
    rw [List.length_drop] at hq
    rw [Bool.eq_iff_iff]
    constructor
    · intro hm
      rw [mt_cons_2 e2] at hm
      obtain ⟨j, hj, hm⟩ := (anyS_iff _ _).1 hm
      rw [List.length_drop] at hj
      obtain ⟨g1, g2⟩ := mt_seg (segF_none e6) _ _ hm
      rw [List.length_drop, List.length_drop] at g1
      rw [List.drop_drop, List.drop_drop] at g2
      have hi0 := h.hi
      have := mt_star_mono h2 (l.drop (at_ + 1)) s i (fr + (j + q.length)) (by omega) (by omega)
      rw [hd]
      refine this ?_
      rw [hd] at g2
      exact g2
    · intro hm
      rw [mt_cons_2 e2]
      refine (anyS_iff _ _).2 ⟨0, Nat.zero_le _, ?_⟩
      rw [List.drop_zero, segF_app e6, List.drop_drop, e5]; exact hm
/-- a piece that fits -/
theorem Inv.fits {l : List Pc} {s : List UInt8} {at_ i fr : Nat} {star : Int} (h : Inv l s at_ i star fr) {x : Pc} (hx : l[at_]? = Option.some x) (h2 : (x.1 == 2) = false) {c : UInt8} (hc : s[i]? = Option.some c) (hf : fit x c = true) : Inv l s (at_ + 1) (i + 1) star fr := by
  have hd := drop_cons hx
  have hs := drop_cons hc
  have ha : at_ < l.length := (List.getElem?_eq_some_iff.1 hx).1
  have hi : i < s.length := (List.getElem?_eq_some_iff.1 hc).1
  refine ⟨ha, hi, fun hn => ⟨(h.none hn).1, ?_⟩, fun hn => ?_⟩
  · rw [(h.none hn).2, hd, hs, mt_cons_ne h2]; simp [hf]
  · obtain ⟨st, y, q, e1, e2, e3, e4, e5, e6, e7⟩ := h.some hn
    refine ⟨st, y, q ++ [x], e1, e2, by rw [e3, hd]; simp, by simp; omega, by simp; omega, ?_, by rw [e7, hd]; simp⟩
    have : ∀ (q : List Pc) (t : List UInt8), segF q t = true → (t.drop q.length).head? = Option.some c → segF (q ++ [x]) t = true := by
      intro q
      induction q with
      | nil =>
        intro t _ ht
        cases t with
        | nil => simp at ht
        | cons d t => simp at ht; subst ht; simp [segF, h2, hf]
      | cons y q ih =>
        intro t hq ht
        cases t with
        | nil => simp [segF] at hq
        | cons d t =>
          simp only [segF, Bool.and_eq_true] at hq
          rw [List.cons_append]
          simp only [segF, Bool.and_eq_true]
          exact ⟨hq.1, hq.2.1, ih t hq.2.2 (by simpa using ht)⟩
    refine this q _ e6 ?_
    rw [List.drop_drop, e5, hs]; rfl
/-- it does not go on so -/
def stuck (l : List Pc) (s : List UInt8) (at_ i : Nat) : Prop := mt (l.drop at_) (s.drop i) = false
theorem stuck_end {l : List Pc} {s : List UInt8} {at_ i : Nat} (ha : l.length ≤ at_) (hi : i < s.length) : stuck l s at_ i := by
  unfold stuck
  rw [List.drop_eq_nil_of_le ha]
  show (s.drop i).isEmpty = false
  cases h : s.drop i with
  | nil => have := List.drop_eq_nil_iff.1 h; omega
  | cons _ _ => rfl
theorem stuck_fit {l : List Pc} {s : List UInt8} {at_ i : Nat} {x : Pc} (hx : l[at_]? = Option.some x) (h2 : (x.1 == 2) = false) {c : UInt8} (hc : s[i]? = Option.some c) (hf : fit x c = false) : stuck l s at_ i := by
  unfold stuck
  rw [drop_cons hx, drop_cons hc, mt_cons_ne h2]; simp [hf]
theorem Inv.fail {l : List Pc} {s : List UInt8} {at_ i fr : Nat} {star : Int} (h : Inv l s at_ i star fr) (hs : star < 0) (hk : stuck l s at_ i) : mt l s = false := by
  rw [(h.none hs).2]; exact hk
theorem Inv.back {l : List Pc} {s : List UInt8} {at_ i fr : Nat} {star : Int} (h : Inv l s at_ i star fr) (hi : i < s.length) (hs : 0 ≤ star) (hk : stuck l s at_ i) : Inv l s (star.toNat + 1) (fr + 1) star (fr + 1) ∧ fr < s.length ∧ star.toNat + 1 ≤ l.length := by
  obtain ⟨st, y, q, e1, e2, e3, e4, e5, e6, e7⟩ := h.some hs
  have hfr : fr < s.length := by omega
  have hst : star.toNat = st := by omega
  have hl : st + 1 ≤ l.length := by have := h.ha; omega
  have e8 : l.drop (st + 1) = q ++ l.drop at_ := by
    have := congrArg List.tail e3
    rw [List.tail_drop, List.tail_cons] at this
    exact this
  rw [hst]
  refine ⟨⟨hl, hfr, fun hn => absurd hn (by omega), fun _ => ⟨st, y, [], e1, e2, by rw [e3, e8]; rfl, rfl, rfl, rfl, ?_⟩⟩, hfr, hl⟩
  rw [e7, List.nil_append, e8, mt_cons_2 e2, mt_cons_2 e2]
  obtain ⟨c, hc⟩ : ∃ c, s[fr]? = Option.some c := ⟨s[fr], List.getElem?_eq_getElem hfr⟩
  rw [drop_cons hc, anyS]
  have : mt (q ++ l.drop at_) (c :: s.drop (fr + 1)) = false := by
    rw [← drop_cons hc, segF_app e6, List.drop_drop, e5]; exact hk
  rw [this, Bool.false_or]
theorem mt_nil : ∀ (p : List Pc), mt p [] = p.all fun x => x.1 == 2
  | [] => rfl
  | x :: p => by
    rw [mt_eq, List.all_cons]
    cases (x.1 == 2)
    · rfl
    · rw [cond_true, anyS, mt_nil p, Bool.true_and]
/-- the text is at its end -/
theorem Inv.done {l : List Pc} {s : List UInt8} {at_ i fr : Nat} {star : Int} (h : Inv l s at_ i star fr) (hi : s.length ≤ i) : mt l s = (l.drop at_).all fun x => x.1 == 2 := by
  have he : s.drop i = [] := List.drop_eq_nil_of_le hi
  by_cases hs : star < 0
  · rw [(h.none hs).2, he, mt_nil]
  · obtain ⟨st, y, q, e1, e2, e3, e4, e5, e6, e7⟩ := h.some (by omega)
    rw [e7, ← mt_nil, mt_cons_2 e2, Bool.eq_iff_iff]
    have hi2 := h.hi
    constructor
    · intro hm
      obtain ⟨j, hj, hm⟩ := (anyS_iff _ _).1 hm
      rw [List.length_drop] at hj
      obtain ⟨g1, g2⟩ := mt_seg (segF_none e6) _ _ hm
      rw [List.length_drop, List.length_drop] at g1
      rw [List.drop_drop, List.drop_drop, List.drop_eq_nil_of_le (show s.length ≤ fr + (j + q.length) by omega)] at g2
      exact g2
    · intro hm
      refine (anyS_iff _ _).2 ⟨0, Nat.zero_le _, ?_⟩
      rw [List.drop_zero, segF_app e6, List.drop_drop, e5, he]; exact hm
/-! ### the table -/
def rowM (q : List Pc) : List UInt8 → List Bool
  | [] => [mt q []]
  | c :: t => mt q (c :: t) :: rowM q t
theorem rowM_len (q : List Pc) : ∀ s, (rowM q s).length = s.length + 1
  | [] => rfl
  | c :: t => by simp [rowM, rowM_len q t]
theorem rowM_get (q : List Pc) : ∀ (s : List UInt8) (i : Nat), i ≤ s.length → (rowM q s)[i]? = some (mt q (s.drop i))
  | [], i, h => by
    have : i = 0 := by simpa using h
    subst this; rfl
  | c :: t, 0, _ => rfl
  | c :: t, i + 1, h => by
    simp only [rowM, List.getElem?_cons_succ, List.drop_succ_cons]
    exact rowM_get q t i (by simpa using h)
end Go.Proofs.YtjbemleloffafaaDoor.V
