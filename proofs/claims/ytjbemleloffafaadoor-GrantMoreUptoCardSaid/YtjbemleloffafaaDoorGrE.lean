/- Patterns: contracts of Match, by greed, and of the document's Match, by a table. -/
import Derived.Test.YtjbemleloffafaaDoorGrD
namespace Go.Proofs.YtjbemleloffafaaDoor.V
open Go
set_option maxRecDepth 100000
set_option linter.unusedVariables false
set_option linter.unusedSimpArgs false
variable {mx : Int}
theorem pd_get {L : List Pc} {n : Nat} {x : Pc} (h : L[n]? = some x) {R : Type} (K : D → Option R) : idx (L.map pD) (n : Int) K = K (pD x) := idx_at K (by omega) (by simp [h])
theorem s_get {s : List UInt8} {n : Nat} {x : UInt8} (h : s[n]? = some x) {R : Type} (K : UInt8 → Option R) : idx s (n : Int) K = K x := idx_at K (by omega) (by simpa using h)
theorem int_beq (a b : Nat) : ((a : Int) == (b : Int)) = (a == b) := by
  rw [Bool.eq_iff_iff, beq_iff_eq, beq_iff_eq]; omega
theorem u8_beq (a b : UInt8) : ((a.toNat : Int) == (b.toNat : Int)) = (a == b) := by
  rw [int_beq, Bool.eq_iff_iff, beq_iff_eq, beq_iff_eq, UInt8.toNat_inj]
theorem fits_pd (x : Pc) (c : UInt8) : fitsD (.agg [.int .i64 (x.1 : Int), .int .u8 (x.2.toNat : Int)]) (c.toNat : Int) = fit x c := by
  show ((x.1 : Int) == 1 || ((x.1 : Int) == 0 && (x.2.toNat : Int) == (c.toNat : Int))) = fit x c
  rw [u8_beq, show ((x.1 : Int) == 1) = (x.1 == 1) from int_beq x.1 1, show ((x.1 : Int) == 0) = (x.1 == 0) from int_beq x.1 0]; rfl
theorem open1 {R : Type} (x : Pc) (K : Int → Option R) : (dAgg (pD x) fun y => lGet y 0 fun z => dInt .i64 z K) = K (x.1 : Int) := rfl
theorem open1b {R : Type} (x : Pc) (K : Int → Option R) : (dAgg (pD x) fun y => lGet y 1 fun z => dInt .u8 z K) = K (x.2.toNat : Int) := rfl
theorem open2 {R : Type} (x : Pc) (K : Int → Int → Option R) : (dAgg (pD x) fun y => lCons y fun a r => dInt .i64 a fun n => lCons r fun a r => dInt .u8 a fun m => lNil r (K n m)) = K (x.1 : Int) (x.2.toNat : Int) := rfl
theorem isP_pd (x : Pc) : isP (.agg [.int .i64 (x.1 : Int), .int .u8 (x.2.toNat : Int)]) = true := rfl
theorem h69_ok : CallsOK (Γ mx) H69 := specs_ok (.cons (sp1_ok c97) (.cons (spDI_ok c98) .nil))
theorem g69_16 (L : List Pc) (hL : L.length ≤ 200) : ∀ (rest pre : List Pc) (i : Int), L = pre ++ rest → i = (pre.length : Int) →
    Goes (Γ mx) H69 69 16 ⟨[(6, .sl 142 .any (L.map pD)), (8, .i .i64 i)], []⟩ (.tuple [.b (rest.all fun x => x.1 == 2), .i .i64 0], [])
  | [], pre, i, he, hi => by
    subst hi
    refine Goes.step ⟨0, ?_⟩
    have e : ((pre.length : Int) == (((L.map pD).length : Nat) : Int)) = true := by rw [he]; simp
    rw [r69_16a, decide_eq_false (show ¬ (pre.length : Int) < (((L.map pD).length : Nat) : Int) by rw [he]; simp), cond_false, e]; rfl
  | x :: r, pre, i, he, hi => by
    subst hi
    have hlen : L.length = pre.length + (r.length + 1) := by rw [he]; simp
    have hx : L[pre.length]? = some x := by rw [he]; simp
    have hw : IntKind.wrap .i64 ((pre.length : Int) + 1) = (pre.length : Int) + 1 := wrapI (by omega) (by omega)
    have hm : (((L.map pD).length : Nat) : Int) = (L.length : Int) := by simp
    obtain ⟨n, hn⟩ := g69_16 L hL r (pre ++ [x]) ((pre.length : Int) + 1) (by rw [he]; simp) (by simp)
    refine Goes.step ⟨n, ?_⟩
    rw [r69_16a, hm, decide_eq_true (show (pre.length : Int) < (L.length : Int) by omega), cond_true, pd_get hx, List.all_cons]
    simp only [open1, hw]
    rw [show ((x.1 : Int) == 2) = (x.1 == 2) from int_beq x.1 2]
    cases (x.1 == 2) with
    | true => rw [cond_true, Bool.true_and]; exact hn
    | false =>
      have e : ((pre.length : Int) == (L.length : Int)) = false := by apply Bool.eq_false_iff.2; intro h; have := eq_of_beq h; omega
      rw [cond_false, e]; rfl
theorem g69 (L : List Pc) (s : List UInt8) (hL : L.length ≤ 200) (hs : s.length ≤ 4194304) : ∀ (m at_ i fr : Nat) (star : Int), (s.length - fr) * (s.length + L.length + 2) + (s.length - i) + (L.length - at_) ≤ m → fr ≤ i → Inv L s at_ i star fr →
    Goes (Γ mx) H69 69 6 ⟨[(1, .s s), (6, .sl 142 .any (L.map pD)), (8, .i .i64 (at_ : Int)), (9, .i .i64 (i : Int)), (10, .i .i64 star), (11, .i .i64 (fr : Int))], []⟩ (.tuple [.b (mt L s), .i .i64 0], []) := by
  intro m
  induction m with
  | zero =>
    intro at_ i fr star hm hfr h
    -- the text is at its end, the pieces too
    have hi : ¬ i < s.length := by
      intro hi
      have := h.hi
      generalize (s.length - fr) * (s.length + L.length + 2) = q at hm
      omega
    obtain ⟨n, hn⟩ := g69_16 (mx := mx) L hL (L.drop at_) (L.take at_) (at_ : Int) (by simp) (by rw [List.length_take]; have := h.ha; omega)
    refine Goes.step ⟨n, ?_⟩
    rw [r69_6a, decide_eq_false (show ¬ (i : Int) < (s.length : Int) by omega), h.done (by omega)]
    exact hn
  | succ m ih =>
    intro at_ i fr star hm hfr h
    have ha0 := h.ha
    have hi0 := h.hi
    by_cases hi : i < s.length
    · have hw1 : IntKind.wrap .i64 ((at_ : Int) + 1) = ((at_ + 1 : Nat) : Int) := by rw [wrapI (by omega) (by omega)]; omega
      have hw2 : IntKind.wrap .i64 ((i : Int) + 1) = ((i + 1 : Nat) : Int) := by rw [wrapI (by omega) (by omega)]; omega
      have hw3 : IntKind.wrap .i64 ((fr : Int) + 1) = ((fr + 1 : Nat) : Int) := by rw [wrapI (by omega) (by omega)]; omega
      have hlm : (((L.map pD).length : Nat) : Int) = (L.length : Int) := by simp
      obtain ⟨c, hc⟩ : ∃ c, s[i]? = some c := ⟨s[i], List.getElem?_eq_getElem hi⟩
      -- it does not go on so
      have failing : stuck L s at_ i → ∃ n, (bif decide (star ≥ 0) then (V.L (Γ mx) H69 69 n (todoAt (Γ mx) 69 6) ⟨[(1, .s s), (6, .sl 142 .any (L.map pD)), (8, .i .i64 (IntKind.wrap .i64 (star + 1))), (9, .i .i64 (IntKind.wrap .i64 ((fr : Int) + 1))), (10, .i .i64 star), (11, .i .i64 (IntKind.wrap .i64 ((fr : Int) + 1)))], []⟩) else (some (.tuple [.b false, .i .i64 0], []))) = some (AV.tuple [.b (mt L s), .i .i64 0], ([] : Objs)) := fun hk => by
        by_cases hst : 0 ≤ star
        · obtain ⟨hinv, hf2, hf3⟩ := h.back hi hst hk
          have e1 : IntKind.wrap .i64 (star + 1) = ((star.toNat + 1 : Nat) : Int) := by rw [wrapI (by omega) (by omega)]; omega
          obtain ⟨n, hn⟩ := ih (star.toNat + 1) (fr + 1) (fr + 1) star (by
            have e : s.length - fr = (s.length - (fr + 1)) + 1 := by omega
            rw [e, Nat.succ_mul] at hm
            generalize (s.length - (fr + 1)) * (s.length + L.length + 2) = q at hm ⊢
            omega) (Nat.le_refl _) hinv
          refine ⟨n, ?_⟩
          rw [decide_eq_true hst, e1, hw3]; exact hn
        · exact ⟨0, by rw [decide_eq_false hst, h.fail (by omega) hk]; rfl⟩
      by_cases ha : at_ < L.length
      · obtain ⟨x, hx⟩ : ∃ x, L[at_]? = some x := ⟨L[at_], List.getElem?_eq_getElem ha⟩
        cases h2 : (x.1 == 2) with
        | true =>
          obtain ⟨n, hn⟩ := ih (at_ + 1) i i (at_ : Int) (by
            have := Nat.mul_le_mul_right (s.length + L.length + 2) (show s.length - i ≤ s.length - fr by omega)
            generalize (s.length - i) * (s.length + L.length + 2) = q1 at *
            generalize (s.length - fr) * (s.length + L.length + 2) = q2 at *
            omega) (Nat.le_refl _) (h.many hx h2)
          refine Goes.step ⟨n, ?_⟩
          rw [r69_6a, hlm, decide_eq_true (show (i : Int) < (s.length : Int) by omega), decide_eq_true (show (at_ : Int) < (L.length : Int) by omega), cond_true, cond_true, pd_get hx]
          simp only [open1, hw1]
          rw [show ((x.1 : Int) == 2) = (x.1 == 2) from int_beq x.1 2, h2, cond_true]
          exact hn
        | false =>
          cases hf : fit x c with
          | true =>
            obtain ⟨n, hn⟩ := ih (at_ + 1) (i + 1) fr star (by
              generalize (s.length - fr) * (s.length + L.length + 2) = q2 at *
              omega) (by omega) (h.fits hx h2 hc hf)
            refine Goes.step ⟨n, ?_⟩
            rw [r69_6a, hlm, decide_eq_true (show (i : Int) < (s.length : Int) by omega), decide_eq_true (show (at_ : Int) < (L.length : Int) by omega), cond_true, cond_true, pd_get hx]
            simp only [open1, hw1, hw2]
            rw [show ((x.1 : Int) == 2) = (x.1 == 2) from int_beq x.1 2, h2, cond_false, cond_true, pd_get hx]
            simp only [open2, s_get hc]
            rw [isP_pd, fits_pd, hf]
            exact hn
          | false =>
            obtain ⟨n, hn⟩ := failing (stuck_fit hx h2 hc hf)
            refine Goes.step ⟨n, ?_⟩
            rw [r69_6a, hlm, decide_eq_true (show (i : Int) < (s.length : Int) by omega), decide_eq_true (show (at_ : Int) < (L.length : Int) by omega), cond_true, cond_true, pd_get hx]
            simp only [open1]
            rw [show ((x.1 : Int) == 2) = (x.1 == 2) from int_beq x.1 2, h2, cond_false, cond_true, pd_get hx]
            simp only [open2, s_get hc]
            rw [isP_pd, fits_pd, hf]
            exact hn
      · obtain ⟨n, hn⟩ := failing (stuck_end (by omega) hi)
        refine Goes.step ⟨n, ?_⟩
        rw [r69_6a, hlm, decide_eq_true (show (i : Int) < (s.length : Int) by omega), decide_eq_false (show ¬ (at_ : Int) < (L.length : Int) by omega)]
        exact hn
    · obtain ⟨n, hn⟩ := g69_16 (mx := mx) L hL (L.drop at_) (L.take at_) (at_ : Int) (by simp) (by rw [List.length_take]; omega)
      refine Goes.step ⟨n, ?_⟩
      rw [r69_6a, decide_eq_false (show ¬ (i : Int) < (s.length : Int) by omega), h.done (by omega)]
      exact hn
theorem pcL_len (p : List UInt8) : (pcL p).length ≤ 200 := by
  unfold pcL
  by_cases h : p.length ≤ 200
  · rw [decide_eq_true h, cond_true]; exact Nat.le_trans (pcs_len p) h
  · rw [decide_eq_false h]; simp
theorem c69 (p s : List UInt8) (h : short s = true) : RetX (Γ mx) 69 [.s p, .s s] [] (.tuple [.b (matB p s), .i .i64 (matE p)]) [] := by
  have hs : s.length ≤ 4194304 := of_decide_eq_true h
  unfold matB matE
  cases hp : pcB p with
  | false =>
    refine ret_goes (Γ := Γ mx) hP hZ h69_ok (by kernel_rfl) ⟨0, ?_⟩
    rw [r69, hp]; rfl
  | true =>
    obtain ⟨n, hn⟩ := g69 (mx := mx) (pcL p) s (pcL_len p) hs _ 0 0 0 (-1) (Nat.le_refl _) (Nat.le_refl _) (inv_start _ _)
    refine ret_goes (Γ := Γ mx) hP hZ h69_ok (by kernel_rfl) ⟨n, ?_⟩
    have e : pcV p = (pcL p).map pD := by unfold pcV; rw [hp]; rfl
    rw [r69, hp, e]
    exact hn
/-! ### the table -/
def rowD (q : List Pc) (s : List UInt8) : List D := (rowM q s).map D.bool
theorem rowD_len (q : List Pc) (s : List UInt8) : (rowD q s).length = s.length + 1 := by unfold rowD; rw [List.length_map, rowM_len]
theorem rowD_get (q : List Pc) {s : List UInt8} {i : Nat} (h : i ≤ s.length) : (rowD q s)[i]? = some (D.bool (mt q (s.drop i))) := by
  unfold rowD; rw [List.getElem?_map, rowM_get q s i h]; rfl
theorem lget {α R : Type} {l : List α} {i : Nat} {a : α} (h : l[i]? = some a) (K : α → Option R) : lGet l i K = K a := by unfold lGet; rw [h]
theorem set_rep {α : Type} (a v : α) (t : List α) : ∀ j, (List.replicate (j + 1) a ++ t).set j v = List.replicate j a ++ v :: t
  | 0 => rfl
  | j + 1 => by
    rw [List.replicate_succ, List.cons_append, List.set_cons_succ, set_rep a v t j]; rfl
theorem rowD_drop (q : List Pc) {s : List UInt8} {j : Nat} (h : j ≤ s.length) : (rowD q s).drop j = D.bool (mt q (s.drop j)) :: (rowD q s).drop (j + 1) := drop_cons (rowD_get q h)
/-- the row that is being made -/
def nextD (x : Pc) (q : List Pc) (s : List UInt8) (j : Nat) : List D := List.replicate j (D.bool false) ++ (rowD (x :: q) s).drop j
theorem nextD_len (x : Pc) (q : List Pc) (s : List UInt8) {j : Nat} (h : j ≤ s.length + 1) : (nextD x q s j).length = s.length + 1 := by
  unfold nextD; rw [List.length_append, List.length_replicate, List.length_drop, rowD_len]; omega
theorem nextD_set (x : Pc) (q : List Pc) (s : List UInt8) {j : Nat} (h : j ≤ s.length) {v : Bool} (hv : v = mt (x :: q) (s.drop j)) : (nextD x q s (j + 1)).set j (D.bool v) = nextD x q s j := by
  unfold nextD
  rw [set_rep, hv, ← rowD_drop _ h]
theorem nextD_at (x : Pc) (q : List Pc) (s : List UInt8) {j : Nat} (h : j ≤ s.length) : (nextD x q s (j + 1))[j]? = some (D.bool false) := by
  unfold nextD
  rw [List.getElem?_append_left (by simp)]; simp
theorem nextD_at1 (x : Pc) (q : List Pc) (s : List UInt8) {j : Nat} (h : j < s.length) : (nextD x q s (j + 1))[j + 1]? = some (D.bool (mt (x :: q) (s.drop (j + 1)))) := by
  unfold nextD
  rw [List.getElem?_append_right (by simp)]
  simp only [List.length_replicate, Nat.sub_self, List.getElem?_drop, Nat.add_zero]
  exact rowD_get _ h
theorem nextD_keep (x : Pc) (q : List Pc) (s : List UInt8) {j : Nat} (h : j ≤ s.length) (hv : mt (x :: q) (s.drop j) = false) : nextD x q s (j + 1) = nextD x q s j := by
  unfold nextD
  rw [rowD_drop _ h, hv, List.replicate_succ']
  simp
theorem h70_ok : CallsOK (Γ mx) H70 := specs_ok (.cons (sp1_ok c72) .nil)
theorem g70_11 (L : List Pc) (s : List UInt8) (hs : s.length ≤ 4194304) (k : Nat) (hk : k < 200) (x : Pc) (hx : L[k]? = some x) (hx2 : x.1 ≤ 2) (R : AV × Objs)
    (hR : Goes (Γ mx) H70 70 7 ⟨[(1, .s s), (6, .sl 145 .any (L.map pD)), (8, .ref 4 0), (9, .i .i64 ((k : Int) - 1))], [some (.arr 4 (rowD (x :: L.drop (k + 1)) s) false)]⟩ R) :
    ∀ j, j ≤ s.length + 1 → Goes (Γ mx) H70 70 11 ⟨[(1, .s s), (6, .sl 145 .any (L.map pD)), (8, .ref 4 0), (9, .i .i64 (k : Int)), (10, .ref 4 1), (11, .i .i64 ((j : Int) - 1))], [some (.arr 4 (rowD (L.drop (k + 1)) s) false), some (.arr 4 (nextD x (L.drop (k + 1)) s j) false)]⟩ R
  | 0, h => by
    obtain ⟨n, hn⟩ := hR
    refine Goes.step ⟨n, ?_⟩
    have hw : IntKind.wrap .i64 ((k : Int) - 1) = (k : Int) - 1 := wrapI (by omega) (by omega)
    rw [r70_11a, decide_eq_false (show ¬ (((0 : Nat) : Int) - 1) ≥ 0 by omega), hw]
    exact hn
  | j + 1, h => by
    have hj : j ≤ s.length := by omega
    have ej : (((j + 1 : Nat) : Int) - 1) = (j : Int) := by omega
    have hw1 : IntKind.wrap .i64 ((j : Int) + 1) = ((j + 1 : Nat) : Int) := by rw [wrapI (by omega) (by omega)]; omega
    have hw2 : IntKind.wrap .i64 ((j : Int) - 1) = (j : Int) - 1 := wrapI (by omega) (by omega)
    obtain ⟨n, hn⟩ := g70_11 L s hs k hk x hx hx2 R hR j (by omega)
    generalize hq : L.drop (k + 1) = q at *
    have t1 : (Int.toNat (j : Int)) = j := by omega
    have t2 : (Int.toNat ((j + 1 : Nat) : Int)) = j + 1 := by omega
    have l5 : (((rowD q s).length : Nat) : Int) = (s.length : Int) + 1 := by rw [rowD_len]; omega
    have l6 : (((nextD x q s (j + 1)).length : Nat) : Int) = (s.length : Int) + 1 := by rw [nextD_len _ _ _ h]; omega
    have d0 : decide ((0 : Int) ≤ (j : Int)) = true := decide_eq_true (by omega)
    have d1 : decide ((j : Int) < (s.length : Int) + 1) = true := decide_eq_true (by omega)
    refine Goes.step ⟨n, ?_⟩
    rw [ej, r70_11a, decide_eq_true (show (j : Int) ≥ 0 by omega), cond_true, pd_get hx]
    simp only [open1, open1b, hw1, hw2, l5, l6, d0, d1, t1, t2, Bool.and_self, cond_true, lget (rowD_get q hj), lget (nextD_at x q s hj), dBool]
    rw [show ((x.1 : Int) == 2) = (x.1 == 2) from int_beq x.1 2]
    by_cases hjs : j < s.length
    · obtain ⟨c, hc⟩ : ∃ c, s[j]? = some c := ⟨s[j], List.getElem?_eq_getElem hjs⟩
      have d2 : decide ((j : Int) < (s.length : Int)) = true := decide_eq_true (by omega)
      have d3 : decide ((0 : Int) ≤ ((j + 1 : Nat) : Int)) = true := decide_eq_true (by omega)
      have d4 : decide (((j + 1 : Nat) : Int) < (s.length : Int) + 1) = true := decide_eq_true (by omega)
      simp only [d2, d3, d4, Bool.and_self, cond_true, lget (rowD_get q (show j + 1 ≤ s.length by omega)), lget (nextD_at1 x q s hjs), dBool, pd_get hx, open1, open1b, s_get hc]
      have hsd := drop_cons hc
      cases h2 : (x.1 == 2) with
      | true =>
        have hv : mt (x :: q) (s.drop j) = (mt q (s.drop j) || mt (x :: q) (s.drop (j + 1))) := by rw [hsd, mt_cons_2 h2, mt_cons_2 h2, anyS]
        rw [cond_true]
        cases hb : mt q (s.drop j) with
        | true => rw [cond_true, nextD_set x q s hj (by rw [hv, hb]; rfl)]; exact hn
        | false => rw [cond_false, nextD_set x q s hj (by rw [hv, hb]; rfl)]; exact hn
      | false =>
        have hv : mt (x :: q) (s.drop j) = (fit x c && mt q (s.drop (j + 1))) := by rw [hsd, mt_cons_ne h2]
        rw [cond_false]
        cases hb : mt q (s.drop (j + 1)) with
        | false => rw [cond_false, nextD_set x q s hj (by rw [hv, hb, Bool.and_false])]; exact hn
        | true =>
          rw [cond_true, show ((x.1 : Int) == 1) = (x.1 == 1) from int_beq x.1 1, u8_beq]
          cases h1 : (x.1 == 1) with
          | true => rw [cond_true, nextD_set x q s hj (by rw [hv, hb]; simp [fit, h1])]; exact hn
          | false =>
            have h0 : (x.1 == 0) = true := by
              have := beq_eq_false_iff_ne.1 h1
              have := beq_eq_false_iff_ne.1 h2
              rw [beq_iff_eq]; omega
            rw [cond_false, nextD_set x q s hj (by rw [hv, hb]; simp [fit, h1, h0])]; exact hn
    · have hje : j = s.length := by omega
      have hsd : s.drop j = [] := List.drop_eq_nil_of_le (by omega)
      have d2 : decide ((j : Int) < (s.length : Int)) = false := decide_eq_false (by omega)
      simp only [d2, cond_false]
      cases h2 : (x.1 == 2) with
      | true =>
        have hv : mt (x :: q) (s.drop j) = mt q (s.drop j) := by rw [hsd, mt_cons_2 h2, anyS]
        rw [cond_true]
        cases hb : mt q (s.drop j) with
        | true => rw [cond_true, nextD_set x q s hj (by rw [hv, hb])]; exact hn
        | false => rw [cond_false, nextD_set x q s hj (by rw [hv, hb])]; exact hn
      | false =>
        have hv : mt (x :: q) (s.drop j) = false := by rw [hsd, mt_cons_ne h2]
        rw [cond_false, nextD_keep x q s hj hv]; exact hn
theorem room1 {n : Nat} (h : n ≤ 10000000) : roomB n 1 = true := by
  unfold roomB
  simp only [Bool.and_eq_true, decide_eq_true_eq]
  exact ⟨rfl, by omega⟩
theorem g70_7 (L : List Pc) (s : List UInt8) (hs : s.length ≤ 4194304) (hL : L.length ≤ 200) (hk2 : ∀ x ∈ L, x.1 ≤ 2) : ∀ k, k ≤ L.length →
    Goes (Γ mx) H70 70 7 ⟨[(1, .s s), (6, .sl 145 .any (L.map pD)), (8, .ref 4 0), (9, .i .i64 ((k : Int) - 1))], [some (.arr 4 (rowD (L.drop k) s) false)]⟩ (.tuple [.b (mt L s), .i .i64 0], [])
  | 0, h => by
    refine Goes.step ⟨0, ?_⟩
    have l4 : (((rowD (L.drop 0) s).length : Nat) : Int) = (s.length : Int) + 1 := by rw [rowD_len]; omega
    rw [r70_7a, decide_eq_false (show ¬ (((0 : Nat) : Int) - 1) ≥ 0 by omega), l4, decide_eq_true (show (0 : Int) ≤ 0 by omega), decide_eq_true (show (0 : Int) < (s.length : Int) + 1 by omega)]
    simp only [Bool.and_self, cond_true, cond_false, lget (rowD_get (L.drop 0) (Nat.zero_le s.length)), dBool]
    simp
  | k + 1, h => by
    have hw : IntKind.wrap .i64 ((s.length : Int) + 1) = ((s.length + 1 : Nat) : Int) := by rw [wrapI (by omega) (by omega)]; omega
    have ek : (((k + 1 : Nat) : Int) - 1) = (k : Int) := by omega
    obtain ⟨x, hx⟩ : ∃ x, L[k]? = some x := ⟨L[k], List.getElem?_eq_getElem (by omega)⟩
    have hR := g70_7 L s hs hL hk2 k (by omega)
    rw [drop_cons hx] at hR
    obtain ⟨n, hn⟩ := g70_11 (mx := mx) L s hs k (by omega) x hx (hk2 x (List.mem_of_getElem? hx)) _ hR (s.length + 1) (Nat.le_refl _)
    refine Goes.step ⟨n, ?_⟩
    rw [ek, r70_7a, decide_eq_true (show (k : Int) ≥ 0 by omega), hw, decide_eq_true (show (0 : Int) ≤ ((s.length + 1 : Nat) : Int) by omega), decide_eq_true (Int.le_refl _), Int.toNat_natCast, room1 (by omega)]
    simp only [Bool.and_self, cond_true]
    have e : nextD x (L.drop (k + 1)) s (s.length + 1) = List.replicate (s.length + 1) (D.bool false) := by
      unfold nextD
      rw [List.drop_eq_nil_of_le (by rw [rowD_len]; omega), List.append_nil]
    rw [e, show (((s.length + 1 : Nat) : Int) - 1) = (s.length : Int) by omega] at hn
    exact hn
theorem row_nil : ∀ (s : List UInt8), rowD [] s = List.replicate s.length (D.bool false) ++ [D.bool true]
  | [] => rfl
  | c :: t => by
    show D.bool _ :: rowD [] t = _
    rw [row_nil t]; rfl
theorem c70 (p s : List UInt8) (h : short s = true) : RetX (Γ mx) 70 [.s p, .s s] [] (.tuple [.b (matB p s), .i .i64 (matE p)]) [] := by
  have hs : s.length ≤ 4194304 := of_decide_eq_true h
  unfold matB matE
  cases hp : pcB p with
  | false =>
    refine ret_goes (Γ := Γ mx) hP hZ h70_ok (by kernel_rfl) ⟨0, ?_⟩
    rw [r70, hp]; rfl
  | true =>
    have hk2 : ∀ x ∈ pcL p, x.1 ≤ 2 := by
      unfold pcL
      cases decide (p.length ≤ 200)
      · intro x hx; cases hx
      · exact pcs_kind p
    obtain ⟨n, hn⟩ := g70_7 (mx := mx) (pcL p) s hs (pcL_len p) hk2 (pcL p).length (Nat.le_refl _)
    rw [List.drop_length] at hn
    refine ret_goes (Γ := Γ mx) hP hZ h70_ok (by kernel_rfl) ⟨n, ?_⟩
    have hw : IntKind.wrap .i64 ((s.length : Int) + 1) = ((s.length + 1 : Nat) : Int) := by rw [wrapI (by omega) (by omega)]; omega
    have e : pcR p = (pcL p).map pD := rfl
    have hl := pcL_len p
    have hw2 : IntKind.wrap .i64 ((((pcL p).map pD).length : Int) - 1) = ((pcL p).length : Int) - 1 := by rw [List.length_map]; exact wrapI (by omega) (by omega)
    have e2 : List.replicate (s.length + 1) (D.bool false) = List.replicate (s.length + 1) (D.bool false) ++ [] := by simp
    have e3 : (List.replicate (s.length + 1) (D.bool false)).set s.length (D.bool true) = rowD [] s := by rw [e2, set_rep, row_nil]
    rw [r70, hp, hw, e, hw2, decide_eq_true (show (0 : Int) ≤ ((s.length + 1 : Nat) : Int) by omega), decide_eq_true (Int.le_refl _), Int.toNat_natCast, room1 (by omega), Int.toNat_natCast, decide_eq_true (show (0 : Int) ≤ (s.length : Int) by omega),
      decide_eq_true (show (s.length : Int) < (((List.replicate (s.length + 1) (D.bool false)).length : Nat) : Int) by rw [List.length_replicate]; omega), lget (a := D.bool false) (by simp), e3]
    exact hn
end Go.Proofs.YtjbemleloffafaaDoor.V
