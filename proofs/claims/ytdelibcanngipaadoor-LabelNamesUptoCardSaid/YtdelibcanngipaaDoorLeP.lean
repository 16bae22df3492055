/- Names: plain laws over lists of bytes, no program in sight. -/
import Derived.Test.YtdelibcanngipaaDoorLcC
import Derived.Lib.SplitLaws
import Derived.Lib.ValidLaws
import Derived.Lib.SlTrimSet
import Derived.Lib.MapLaws
namespace Go.Proofs.YtdelibcanngipaaDoor.V
open Go
set_option maxRecDepth 100000
set_option linter.unusedVariables false
set_option linter.unusedSimpArgs false

/-! ### what lies between points -/
def consHd (c : UInt8) : List (List UInt8) → List (List UInt8)
  | [] => [[c]]
  | p :: ps => (c :: p) :: ps
def dotSplit : List UInt8 → List (List UInt8)
  | [] => [[]]
  | c :: r => if c = 46 then [] :: dotSplit r else consHd c (dotSplit r)
theorem splitK_cons {c : UInt8} (hc : c ≠ 46) (r : List UInt8) (k : Nat) : Lib.splitK [46] 0 k (c :: r) = consHd c (Lib.splitK [46] 0 k r) := by
  cases k with
  | zero => rfl
  | succ k =>
    have hp : List.isPrefixOf [46] (c :: r) = false := by simp [List.isPrefixOf, Ne.symm hc]
    have hge := Lib.index_ge r [46]
    simp only [Lib.splitK]
    rw [Lib.index, hp]
    simp only [Bool.false_eq_true, if_false]
    by_cases h : Lib.index r [46] = -1
    · rw [h]; rfl
    · have h2 : (Lib.index r [46] == -1) = false := by simpa using h
      have h3 : (Lib.index r [46] + 1 == -1) = false := by simp <;> omega
      rw [h2]
      simp only [Bool.false_eq_true, if_false]
      rw [h3]
      simp only [Bool.false_eq_true, if_false, Nat.add_zero]
      rw [show (Lib.index r [46] + 1).toNat = (Lib.index r [46]).toNat + 1 by omega, List.take_succ_cons, show (Lib.index r [46]).toNat + 1 + [(46 : UInt8)].length = ((Lib.index r [46]).toNat + [(46 : UInt8)].length) + 1 by omega, List.drop_succ_cons]
      rfl
theorem split_dot : ∀ s : List UInt8, Lib.split s [46] = dotSplit s
  | [] => by rfl
  | c :: r => by
    have ih := split_dot r
    unfold Lib.split at ih ⊢
    rw [Lib.count_one] at ih ⊢
    by_cases hc : c = 46
    · subst hc
      have hp : List.isPrefixOf [46] ((46 : UInt8) :: r) = true := by simp [List.isPrefixOf]
      rw [List.count_cons_self, Lib.splitK, Lib.index, if_pos hp]
      simp only [dotSplit, if_true]
      rw [← ih]
      rfl
    · rw [List.count_cons_of_ne (by simpa using hc), splitK_cons hc, ih]
      simp only [dotSplit, if_neg hc]

/-! ### four numbers with points between -/
def figB (c : UInt8) : Bool := decide (48 ≤ c.toNat) && decide (c.toNat ≤ 57)
def okP (g : Nat) (p : List UInt8) : Bool := decide (1 ≤ g + p.length) && decide (g + p.length ≤ 3) && p.all figB
def fourV : Nat → Nat → List UInt8 → Bool
  | d, g, [] => decide (d = 3) && decide (0 < g)
  | d, g, c :: r => if c = 46 then (if g = 0 then false else fourV (d + 1) 0 r) else if figB c = true ∧ g + 1 ≤ 3 then fourV d (g + 1) r else false
def addrV (s : List UInt8) : Bool := decide ((dotSplit s).length = 4) && (dotSplit s).all (okP 0)
def fourP (d g : Nat) : List (List UInt8) → Bool
  | [] => false
  | p :: ps => decide (ps.length + 1 + d = 4) && (okP g p && ps.all (okP 0))
theorem dot_ne (s : List UInt8) : dotSplit s ≠ [] := by
  cases s with
  | nil => simp [dotSplit]
  | cons c r =>
    simp only [dotSplit]
    split
    · simp
    · cases dotSplit r <;> simp [consHd]
theorem four_dot : ∀ (s : List UInt8) (d g : Nat), g ≤ 3 → fourV d g s = fourP d g (dotSplit s)
  | [], d, g, hg => by
    simp only [fourV, dotSplit, fourP, okP, List.length_nil, List.all_nil, Bool.and_true, Nat.add_zero]
    rw [Bool.eq_iff_iff]
    simp <;> omega
  | c :: r, d, g, hg => by
    simp only [fourV, dotSplit]
    by_cases hc : c = 46
    · rw [if_pos hc, if_pos hc]
      simp only [fourP]
      by_cases h0 : g = 0
      · subst h0; simp [okP]
      · rw [if_neg h0, four_dot r (d + 1) 0 (by omega)]
        cases hd : dotSplit r with
        | nil => exact absurd hd (dot_ne r)
        | cons p ps =>
          have hg1 : okP g [] = true := by simp [okP] <;> omega
          have hn : decide (ps.length + 1 + (d + 1) = 4) = decide (ps.length + 1 + 1 + d = 4) := decide_eq_decide.2 (by omega)
          simp only [fourP, List.length_cons, List.all_cons, hg1, hn, Bool.true_and]
    · rw [if_neg hc, if_neg hc]
      cases hd : dotSplit r with
      | nil => exact absurd hd (dot_ne r)
      | cons p ps =>
        by_cases hf : figB c = true
        · by_cases h3 : g + 1 ≤ 3
          · rw [if_pos ⟨hf, h3⟩, four_dot r d (g + 1) h3, hd]
            simp only [consHd, fourP, okP, List.length_cons, List.all_cons, hf, Bool.true_and]
            rw [show g + 1 + p.length = g + (p.length + 1) by omega]
          · rw [if_neg (fun h => h3 h.2)]
            simp only [consHd, fourP, okP, List.length_cons]
            have : decide (g + (p.length + 1) ≤ 3) = false := decide_eq_false (by omega)
            rw [this]; simp
        · rw [if_neg (fun h => hf h.1)]
          have hf' : figB c = false := Bool.eq_false_iff.2 hf
          simp only [consHd, fourP, okP, List.all_cons, hf', Bool.false_and, Bool.and_false]
theorem addr_four (s : List UInt8) : addrV s = fourV 0 0 s := by
  rw [four_dot s 0 0 (by omega)]
  unfold addrV
  cases hd : dotSplit s with
  | nil => exact absurd hd (dot_ne s)
  | cons p ps =>
    simp only [fourP, List.length_cons, List.all_cons, Nat.add_zero]
theorem dw_nil {α : Type} (q : α → Bool) : ∀ l : List α, (l.dropWhile q = []) ↔ l.all q = true
  | [] => by simp
  | x :: r => by
    rw [List.dropWhile_cons]
    cases h : q x with
    | true => simpa [h] using dw_nil q r
    | false => simp [h]
theorem dw_head {α : Type} (q : α → Bool) : ∀ (l : List α) {x : α} {r : List α}, l.dropWhile q = x :: r → q x = false
  | [], x, r, h => by simp at h
  | y :: l, x, r, h => by
    rw [List.dropWhile_cons] at h
    cases hy : q y with
    | true => rw [hy] at h; exact dw_head q l h
    | false => rw [hy] at h; cases h; exact hy
/-- nothing is left -/
theorem trim_nil (p cs : List UInt8) : (Lib.trimS p cs = []) ↔ p.all (cs.contains ·) = true := by
  unfold Lib.trimS Lib.trimLeftS Lib.trimRightS
  rw [dw_nil, ← List.all_reverse (l := p)]
  cases hx : p.reverse.dropWhile (cs.contains ·) with
  | nil =>
    have := (dw_nil _ _).1 hx
    simp only [List.reverse_nil, List.all_nil, true_iff]
    exact this
  | cons x r =>
    have h1 := dw_head _ _ hx
    constructor
    · intro h
      rw [List.all_eq_true] at h
      have := h x (by simp)
      rw [h1] at this
      exact absurd this (by simp)
    · intro h
      have := (dw_nil _ _).2 h
      rw [hx] at this
      exact absurd this (by simp)
theorem fig_mem (c : UInt8) : ([48, 49, 50, 51, 52, 53, 54, 55, 56, 57] : List UInt8).contains c = figB c := by
  have h := (by decide +kernel : ∀ n : Nat, n < 256 → ([48, 49, 50, 51, 52, 53, 54, 55, 56, 57] : List UInt8).contains (UInt8.ofNat n) = figB (UInt8.ofNat n)) c.toNat c.toNat_lt
  simpa using h
theorem trim_fig (p : List UInt8) : (Lib.trimS p [48, 49, 50, 51, 52, 53, 54, 55, 56, 57] == ([] : List UInt8)) = p.all figB := by
  rw [Bool.eq_iff_iff, beq_iff_eq, trim_nil]
  simp only [fig_mem]

/-! ### a bucket's name -/
def lowB (c : UInt8) : Bool := lowZ (c.toNat : Int)
def la (first : Bool) : List UInt8 → Bool
  | [] => true
  | [c] => lowB c
  | c :: d :: r => if lowB c = true then la false (d :: r) else if (c ≠ 45 ∧ c ≠ 46) ∨ first = true then false else if (d = 46 ∨ d = 45) ∧ (c = 46 ∨ d = 46) then false else la false (d :: r)
def rb (prev : UInt8) : List UInt8 → Bool
  | [] => true
  | c :: r => if lowB c = false ∧ c ≠ 45 ∧ c ≠ 46 then false else if lowB c = false ∧ lowB prev = false ∧ ¬ (c = 45 ∧ prev = 45) then false else rb c r
def lastB : List UInt8 → Bool
  | [] => true
  | [c] => lowB c
  | _ :: d :: r => lastB (d :: r)
theorem low45 : lowB 45 = false := by decide
theorem low46 : lowB 46 = false := by decide
theorem la_rb : ∀ (r : List UInt8) (c : UInt8), la false (c :: r) = ((lowB c || c == 45 || c == 46) && (lastB (c :: r) && rb c r))
  | [], c => by
    simp only [la, lastB, rb, Bool.and_true]
    cases lowB c <;> simp
  | d :: r, c => by
    have ih := la_rb r d
    simp only [la, lastB, rb]
    rw [ih]
    by_cases hd1 : d = 45
    · subst hd1
      by_cases hc1 : c = 45
      · subst hc1; simp [low45]
      · by_cases hc2 : c = 46
        · subst hc2; simp [low45, low46]
        · cases hl : lowB c <;> simp [low45, hl, hc1, hc2]
    · by_cases hd2 : d = 46
      · subst hd2
        by_cases hc1 : c = 45
        · subst hc1; simp [low45, low46]
        · by_cases hc2 : c = 46
          · subst hc2; simp [low46]
          · cases hl : lowB c <;> simp [low46, hl, hc1, hc2]
      · cases hld : lowB d
        · simp [hd1, hd2]
        · cases hl : lowB c
          · by_cases hc1 : c = 45
            · subst hc1; simp [hd1, hd2]
            · by_cases hc2 : c = 46
              · subst hc2; simp [hd1, hd2]
              · simp [hc1, hc2]
          · simp
theorem la_true (c : UInt8) (r : List UInt8) (hr : r ≠ []) : la true (c :: r) = (lowB c && (lastB (c :: r) && rb c r)) := by
  cases r with
  | nil => exact absurd rfl hr
  | cons d r =>
    have h := la_rb (d :: r) c
    cases hl : lowB c with
    | true => rw [hl] at h; simpa [la, hl] using h
    | false => simp [la, hl]

/-! ### clean texts -/
def cleanB (c : UInt8) : Bool := decide (32 ≤ c.toNat) && decide (c.toNat ≠ 127)
def inn : Nat → Nat → List UInt8 → Option Nat
  | 0, x, _ => some x
  | _ + 1, _, [] => none
  | m + 1, x, b :: r => if 128 ≤ b.toNat ∧ b.toNat < 192 then inn m (x * 64 + b.toNat - 128) r else none
def fineX (least x : Nat) : Bool := decide (least ≤ x) && decide (x ≤ 1114111) && !(decide (55296 ≤ x) && decide (x ≤ 57343))
/-- how many bytes more; the sign's first bits; the least -/
def lead (c : UInt8) : Option (Nat × Nat × Nat) :=
  if c.toNat < 128 then some (0, c.toNat, 0) else if 192 ≤ c.toNat ∧ c.toNat < 224 then some (1, c.toNat - 192, 128) else if 224 ≤ c.toNat ∧ c.toNat < 240 then some (2, c.toNat - 224, 2048)
  else if 240 ≤ c.toNat ∧ c.toNat < 248 then some (3, c.toNat - 240, 65536) else none
def cleanGo : Nat → List UInt8 → Bool
  | 0, _ => true
  | _ + 1, [] => true
  | f + 1, c :: r => match lead c with
    | none => false
    | some (m, x, least) => if cleanB c = false then false else match inn m x r with
      | none => false
      | some y => if fineX least y = true then cleanGo f (r.drop m) else false
theorem valid_cons (c : UInt8) (r : List UInt8) (f : Nat) (hf : r.length ≤ f) (ih : ∀ l : List UInt8, l.length ≤ f → cleanGo f l = (l.all cleanB && Lib.validD l)) : cleanGo (f + 1) (c :: r) = ((c :: r).all cleanB && Lib.validD (c :: r)) := by
  rw [Lib.validD_step (c :: r) (by simp), Lib.decodeL_N]
  simp only [cleanGo, lead]
  have hc := c.toNat_lt
  by_cases h1 : c.toNat < 128
  · rw [if_pos h1]
    have hd : Lib.decodeN (c :: r).length ((c :: r).getD 0 0).toNat ((c :: r).getD 1 0).toNat ((c :: r).getD 2 0).toNat ((c :: r).getD 3 0).toNat = (c.toNat, 1) := by
      unfold Lib.decodeN; rw [if_pos (by simpa using h1)]; simp
    rw [hd]
    have hfine : fineX 0 c.toNat = true := by simp [fineX] <;> omega
    simp only [inn, hfine, if_true, List.drop_zero, List.all_cons]
    have hne : ¬ c.toNat = 65533 := by omega
    rw [ih r hf]
    cases hcb : cleanB c <;> simp [hne]
  · rw [if_neg h1]
    have hcl : cleanB c = true := by simp [cleanB] <;> omega
    have contB : ∀ b : UInt8, 128 ≤ b.toNat → cleanB b = true := fun b hb => by simp [cleanB] <;> omega
    by_cases h2 : 192 ≤ c.toNat ∧ c.toNat < 224
    · rw [if_pos h2]
      simp only [hcl, List.all_cons, Bool.true_and]
      cases r with
      | nil =>
        have hd : Lib.decodeN [c].length (([c] : List UInt8).getD 0 0).toNat (([c] : List UInt8).getD 1 0).toNat (([c] : List UInt8).getD 2 0).toNat (([c] : List UInt8).getD 3 0).toNat = (65533, 1) := by
          unfold Lib.decodeN
          rw [if_neg (by simpa using h1), if_neg (by simp), if_neg (by simp), if_neg (by simp)]
        rw [hd]; simp [inn]
      | cons b1 r =>
        simp only [inn]
        have hb1 := b1.toNat_lt
        by_cases k1 : 128 ≤ b1.toNat ∧ b1.toNat < 192
        · have hd : Lib.decodeN (c :: b1 :: r).length ((c :: b1 :: r).getD 0 0).toNat ((c :: b1 :: r).getD 1 0).toNat ((c :: b1 :: r).getD 2 0).toNat ((c :: b1 :: r).getD 3 0).toNat = if (c.toNat - 192) * 64 + b1.toNat - 128 ≥ 128 then ((c.toNat - 192) * 64 + b1.toNat - 128, 2) else (65533, 1) := by
            unfold Lib.decodeN
            simp only [List.getD_cons_zero, List.getD_cons_succ, List.length_cons]
            rw [if_neg h1, if_pos ⟨by omega, by omega, by omega⟩, show c.toNat % 32 * 64 + b1.toNat % 64 = (c.toNat - 192) * 64 + b1.toNat - 128 by omega]
          rw [hd, if_pos k1]
          simp only [List.all_cons, contB b1 k1.1, Bool.true_and]
          by_cases hx : (c.toNat - 192) * 64 + b1.toNat - 128 ≥ 128
          · have hfine : fineX 128 ((c.toNat - 192) * 64 + b1.toNat - 128) = true := by simp [fineX] <;> omega
            have hi := ih r (by simp at hf; omega)
            simp [if_pos hx, hfine, hi]
          · have hfine : fineX 128 ((c.toNat - 192) * 64 + b1.toNat - 128) = false := by simp [fineX] <;> omega
            simp [if_neg hx, hfine]
        · have hd : Lib.decodeN (c :: b1 :: r).length ((c :: b1 :: r).getD 0 0).toNat ((c :: b1 :: r).getD 1 0).toNat ((c :: b1 :: r).getD 2 0).toNat ((c :: b1 :: r).getD 3 0).toNat = (65533, 1) := by
            unfold Lib.decodeN
            simp only [List.getD_cons_zero, List.getD_cons_succ, List.length_cons]
            rw [if_neg h1, if_neg (by omega), if_neg (by omega), if_neg (by omega)]
          rw [hd, if_neg k1]; simp
    · rw [if_neg h2]
      by_cases h3 : 224 ≤ c.toNat ∧ c.toNat < 240
      · rw [if_pos h3]
        simp only [hcl, List.all_cons, Bool.true_and]
        have bad : ∀ r : List UInt8, (∀ b1 b2 t, r = b1 :: b2 :: t → ¬ ((128 ≤ b1.toNat ∧ b1.toNat < 192) ∧ (128 ≤ b2.toNat ∧ b2.toNat < 192))) → Lib.decodeN (c :: r).length ((c :: r).getD 0 0).toNat ((c :: r).getD 1 0).toNat ((c :: r).getD 2 0).toNat ((c :: r).getD 3 0).toNat = (65533, 1) := fun r hr => by
          unfold Lib.decodeN
          match r, hr with
          | [], _ =>
            simp only [List.getD_cons_zero, List.getD_cons_succ, List.length_cons, List.length_nil]
            rw [if_neg h1, if_neg (by omega), if_neg (by omega), if_neg (by omega)]
          | [b1], _ =>
            simp only [List.getD_cons_zero, List.getD_cons_succ, List.length_cons, List.length_nil]
            rw [if_neg h1, if_neg (by omega), if_neg (by omega), if_neg (by omega)]
          | b1 :: b2 :: t, hr =>
            have := hr b1 b2 t rfl
            have e1 := b1.toNat_lt
            have e2 := b2.toNat_lt
            simp only [List.getD_cons_zero, List.getD_cons_succ, List.length_cons]
            rw [if_neg h1, if_neg (by omega), if_neg (by omega), if_neg (by omega)]
        match r, hf with
        | [], _ => rw [bad [] (by simp)]; simp [inn]
        | [b1], _ =>
          rw [bad [b1] (by simp)]
          simp only [inn]
          split <;> simp_all
        | b1 :: b2 :: r, hf =>
          simp only [inn]
          have hb1 := b1.toNat_lt
          have hb2 := b2.toNat_lt
          by_cases k1 : 128 ≤ b1.toNat ∧ b1.toNat < 192
          · by_cases k2 : 128 ≤ b2.toNat ∧ b2.toNat < 192
            · have hd : Lib.decodeN (c :: b1 :: b2 :: r).length ((c :: b1 :: b2 :: r).getD 0 0).toNat ((c :: b1 :: b2 :: r).getD 1 0).toNat ((c :: b1 :: b2 :: r).getD 2 0).toNat ((c :: b1 :: b2 :: r).getD 3 0).toNat =
                  if fineX 2048 (((c.toNat - 224) * 64 + b1.toNat - 128) * 64 + b2.toNat - 128) = true then (((c.toNat - 224) * 64 + b1.toNat - 128) * 64 + b2.toNat - 128, 3) else (65533, 1) := by
                unfold Lib.decodeN
                simp only [List.getD_cons_zero, List.getD_cons_succ, List.length_cons]
                rw [if_neg h1, if_neg (by omega), if_pos ⟨by omega, ⟨by omega, by omega⟩, by omega, by omega⟩, show c.toNat % 16 * 4096 + b1.toNat % 64 * 64 + b2.toNat % 64 = ((c.toNat - 224) * 64 + b1.toNat - 128) * 64 + b2.toNat - 128 by omega]
                congr 1
                simp [fineX] <;> omega
              rw [hd, if_pos k1, if_pos k2]
              simp only [List.all_cons, contB b1 k1.1, contB b2 k2.1, Bool.true_and]
              by_cases hx : fineX 2048 (((c.toNat - 224) * 64 + b1.toNat - 128) * 64 + b2.toNat - 128) = true
              · have hi := ih r (by simp at hf; omega)
                simp [hx, hi]
              · simp [if_neg hx]
            · rw [bad (b1 :: b2 :: r) (fun x y t e => by cases e; exact fun h => k2 h.2), if_pos k1, if_neg k2]; simp
          · rw [bad (b1 :: b2 :: r) (fun x y t e => by cases e; exact fun h => k1 h.1), if_neg k1]; simp
      · rw [if_neg h3]
        by_cases h4 : 240 ≤ c.toNat ∧ c.toNat < 248
        · rw [if_pos h4]
          simp only [hcl, List.all_cons, Bool.true_and]
          have bad : ∀ r : List UInt8, (∀ b1 b2 b3 t, r = b1 :: b2 :: b3 :: t → ¬ ((128 ≤ b1.toNat ∧ b1.toNat < 192) ∧ (128 ≤ b2.toNat ∧ b2.toNat < 192) ∧ (128 ≤ b3.toNat ∧ b3.toNat < 192))) → Lib.decodeN (c :: r).length ((c :: r).getD 0 0).toNat ((c :: r).getD 1 0).toNat ((c :: r).getD 2 0).toNat ((c :: r).getD 3 0).toNat = (65533, 1) := fun r hr => by
            unfold Lib.decodeN
            match r, hr with
            | [], _ =>
              simp only [List.getD_cons_zero, List.getD_cons_succ, List.length_cons, List.length_nil]
              rw [if_neg h1, if_neg (by omega), if_neg (by omega), if_neg (by omega)]
            | [b1], _ =>
              simp only [List.getD_cons_zero, List.getD_cons_succ, List.length_cons, List.length_nil]
              rw [if_neg h1, if_neg (by omega), if_neg (by omega), if_neg (by omega)]
            | [b1, b2], _ =>
              simp only [List.getD_cons_zero, List.getD_cons_succ, List.length_cons, List.length_nil]
              rw [if_neg h1, if_neg (by omega), if_neg (by omega), if_neg (by omega)]
            | b1 :: b2 :: b3 :: t, hr =>
              have := hr b1 b2 b3 t rfl
              have e1 := b1.toNat_lt
              have e2 := b2.toNat_lt
              have e3 := b3.toNat_lt
              simp only [List.getD_cons_zero, List.getD_cons_succ, List.length_cons]
              rw [if_neg h1, if_neg (by omega), if_neg (by omega), if_neg (by omega)]
          match r, hf with
          | [], _ => rw [bad [] (by simp)]; simp [inn]
          | [b1], _ =>
            rw [bad [b1] (by simp)]
            simp only [inn]
            split <;> simp_all
          | [b1, b2], _ =>
            rw [bad [b1, b2] (by simp)]
            simp only [inn]
            repeat' split
            all_goals simp_all
          | b1 :: b2 :: b3 :: r, hf =>
            simp only [inn]
            have hb1 := b1.toNat_lt
            have hb2 := b2.toNat_lt
            have hb3 := b3.toNat_lt
            by_cases k1 : 128 ≤ b1.toNat ∧ b1.toNat < 192
            · by_cases k2 : 128 ≤ b2.toNat ∧ b2.toNat < 192
              · by_cases k3 : 128 ≤ b3.toNat ∧ b3.toNat < 192
                · have hd : Lib.decodeN (c :: b1 :: b2 :: b3 :: r).length ((c :: b1 :: b2 :: b3 :: r).getD 0 0).toNat ((c :: b1 :: b2 :: b3 :: r).getD 1 0).toNat ((c :: b1 :: b2 :: b3 :: r).getD 2 0).toNat ((c :: b1 :: b2 :: b3 :: r).getD 3 0).toNat =
                      if fineX 65536 ((((c.toNat - 240) * 64 + b1.toNat - 128) * 64 + b2.toNat - 128) * 64 + b3.toNat - 128) = true then ((((c.toNat - 240) * 64 + b1.toNat - 128) * 64 + b2.toNat - 128) * 64 + b3.toNat - 128, 4) else (65533, 1) := by
                    unfold Lib.decodeN
                    simp only [List.getD_cons_zero, List.getD_cons_succ, List.length_cons]
                    rw [if_neg h1, if_neg (by omega), if_neg (by omega), if_pos ⟨by omega, ⟨by omega, by omega⟩, ⟨by omega, by omega⟩, by omega, by omega⟩, show c.toNat % 8 * 262144 + b1.toNat % 64 * 4096 + b2.toNat % 64 * 64 + b3.toNat % 64 = (((c.toNat - 240) * 64 + b1.toNat - 128) * 64 + b2.toNat - 128) * 64 + b3.toNat - 128 by omega]
                    congr 1
                    simp [fineX] <;> omega
                  rw [hd, if_pos k1, if_pos k2, if_pos k3]
                  simp only [List.all_cons, contB b1 k1.1, contB b2 k2.1, contB b3 k3.1, Bool.true_and]
                  by_cases hx : fineX 65536 ((((c.toNat - 240) * 64 + b1.toNat - 128) * 64 + b2.toNat - 128) * 64 + b3.toNat - 128) = true
                  · have hi := ih r (by simp at hf; omega)
                    simp [hx, hi]
                  · simp [if_neg hx]
                · rw [bad (b1 :: b2 :: b3 :: r) (fun x y z t e => by cases e; exact fun h => k3 h.2.2), if_pos k1, if_pos k2, if_neg k3]; simp
              · rw [bad (b1 :: b2 :: b3 :: r) (fun x y z t e => by cases e; exact fun h => k2 h.2.1), if_pos k1, if_neg k2]; simp
            · rw [bad (b1 :: b2 :: b3 :: r) (fun x y z t e => by cases e; exact fun h => k1 h.1), if_neg k1]; simp
        · rw [if_neg h4]
          have hd : Lib.decodeN (c :: r).length ((c :: r).getD 0 0).toNat ((c :: r).getD 1 0).toNat ((c :: r).getD 2 0).toNat ((c :: r).getD 3 0).toNat = (65533, 1) := by
            unfold Lib.decodeN
            simp only [List.getD_cons_zero]
            rw [if_neg h1, if_neg (by omega), if_neg (by omega), if_neg (by omega)]
          rw [hd]; simp
theorem clean_valid : ∀ (f : Nat) (l : List UInt8), l.length ≤ f → cleanGo f l = (l.all cleanB && Lib.validD l)
  | 0, l, h => by
    obtain rfl : l = [] := List.length_eq_zero_iff.1 (Nat.le_zero.1 h)
    rfl
  | f + 1, [], h => by rfl
  | f + 1, c :: r, h => valid_cons c r f (by simpa using h) (clean_valid f)
end Go.Proofs.YtdelibcanngipaaDoor.V
