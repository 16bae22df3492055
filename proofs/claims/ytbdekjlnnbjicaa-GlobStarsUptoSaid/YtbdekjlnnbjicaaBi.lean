/- FrX, FrY: texts of this claim, put together in build order by program. -/
import Derived.Test.YtbdekjlnnbjicaaBh
import Derived.Test.YtbdekjlnnbjicaaRows
import Derived.FnData
import Derived.WalkKit
import Derived.ProofKit
import Derived.OpenShut
import Derived.JoinedCond
import Derived.ReadAgain
/- The entry: what a claim's reading of the arguments says, as data. -/
namespace Go.Proofs.Ytbdekjlnnbjicaa.V
open Go
set_option linter.unusedVariables false
set_option linter.unusedSimpArgs false

/-- types that are data alone -/
def dataTy (P : Program) : Nat → TypeId → Bool
  | 0, _ => false
  | n + 1, t => match ds P t with
    | .int _ | .bool | .string => true
    | .slice e => Nat.blt 0 (P.cellsOf e) && dataTy P n e
    | .struct fs => fs.toList.all fun f => dataTy P n f.type
    | .array _ e => dataTy P n e
    | _ => false
mutual
/-- numbers are of their kind -/
def fineD : D → Prop
  | .int k n => k.min ≤ n ∧ n ≤ k.max
  | .slice c xs => c ≠ .ex ∧ (c = .nl → xs = []) ∧ fineL xs
  | .agg xs => fineL xs
  | _ => True
def fineL : List D → Prop
  | [] => True
  | x :: r => fineD x ∧ fineL r
end
mutual
def bulkD : D → Nat
  | .str l => l.length + 1
  | .slice _ xs => bulkL xs + 1
  | .agg xs => bulkL xs + 1
  | _ => 1
def bulkL : List D → Nat
  | [] => 0
  | x :: r => bulkD x + bulkL r
end
def InW (w : World) : Addr → Prop := fun a => a.block < w.heap.size

section
variable {H : Type} {enc : TypeId × Value → H} {P : Program} {w : World} {sp : Nat → Bool} {held : Bool}

theorem trod_int {t : TypeId} {k : IntKind} {n : Nat} {cs : List Value} {x : DataW H × List MemPlace} (hu : P.underlying t = some (.int k)) (h : DataW.trod enc P w 0 sp held (n + 1) t cs = some x) :
    ∃ m, cs = [.int k m] ∧ k.min ≤ m ∧ m ≤ k.max ∧ x.1 = .lit (.int k m) := by
  unfold DataW.trod at h
  rw [hu] at h
  rcases cs with _ | ⟨v, _ | ⟨_, _⟩⟩ <;> try (simp at h; done)
  · cases v <;> try (simp at h; done)
    rename_i k' m
    simp only at h
    split at h
    · rename_i hc
      obtain ⟨rfl, hw⟩ := hc
      cases h
      simp only [Lit.wf, Bool.and_eq_true, decide_eq_true_eq] at hw
      exact ⟨m, rfl, hw.1, hw.2, rfl⟩
    · exact absurd h (by simp)
theorem trod_bool {t : TypeId} {n : Nat} {cs : List Value} {x : DataW H × List MemPlace} (hu : P.underlying t = some .bool) (h : DataW.trod enc P w 0 sp held (n + 1) t cs = some x) :
    ∃ b, cs = [.bool b] ∧ x.1 = .lit (.bool b) := by
  unfold DataW.trod at h
  rw [hu] at h
  rcases cs with _ | ⟨v, _ | ⟨_, _⟩⟩ <;> try (simp at h; done)
  · cases v <;> try (simp at h; done)
    simp only at h
    cases h
    exact ⟨_, rfl, rfl⟩
theorem trod_string {t : TypeId} {n : Nat} {cs : List Value} {x : DataW H × List MemPlace} (hu : P.underlying t = some .string) (h : DataW.trod enc P w 0 sp held (n + 1) t cs = some x) :
    ∃ s : ByteArray, cs = [.string s] ∧ x.1 = .lit (.string s.data.toList) := by
  unfold DataW.trod at h
  rw [hu] at h
  rcases cs with _ | ⟨v, _ | ⟨_, _⟩⟩ <;> try (simp at h; done)
  · cases v <;> try (simp at h; done)
    simp only at h
    split at h
    · cases h
      exact ⟨_, rfl, rfl⟩
    · exact absurd h (by simp)
theorem trod_slice {t e : TypeId} {n : Nat} {cs : List Value} {x : DataW H × List MemPlace} (hu : P.underlying t = some (.slice e)) (h : DataW.trod enc P w 0 sp held (n + 1) t cs = some x) :
    (cs = [.slice none 0 0] ∧ x.1 = .nil) ∨ ∃ a len cap elems rest, cs = [.slice (some a) len cap] ∧ len ≤ cap ∧ x.1 = .slice (elems.map (·.1)) rest ∧
      (List.range len).mapM (fun i => (w.cells? 0 (a.add (i * P.cellsOf e)) (P.cellsOf e)).bind (DataW.trod enc P w 0 sp held n e)) = some elems := by
  unfold DataW.trod at h
  rw [hu] at h
  rcases cs with _ | ⟨v, _ | ⟨_, _⟩⟩ <;> try (simp at h; done)
  · cases v <;> try (simp at h; done)
    rename_i a len cap
    cases a with
    | none =>
      cases len with
      | succ _ => simp at h
      | zero =>
        cases cap with
        | succ _ => simp at h
        | zero => simp only at h; cases h; exact .inl ⟨rfl, rfl⟩
    | some a =>
      simp only at h
      split at h
      · rename_i hc
        simp only [Option.map_eq_some_iff, Option.bind_eq_some_iff] at h
        obtain ⟨elems, he, rest, hrest, rfl⟩ := h
        exact .inr ⟨a, len, cap, elems, _, rfl, hc.2.1, rfl, he⟩
      · exact absurd h (by simp)
theorem trod_struct {t : TypeId} {fs : Array Field} {n : Nat} {cs : List Value} {x : DataW H × List MemPlace} (hu : P.underlying t = some (.struct fs)) (h : DataW.trod enc P w 0 sp held (n + 1) t cs = some x) :
    cs.length = P.cellsOf t ∧ ∃ xs, fs.toList.mapM (fun f => DataW.trod enc P w 0 sp held n f.type ((cs.drop f.offset).take (P.cellsOf f.type))) = some xs ∧ x.1 = .agg (xs.map (·.1)) := by
  unfold DataW.trod at h
  rw [hu] at h
  simp only at h
  split at h
  · rename_i hc
    simp only [Option.map_eq_some_iff] at h
    obtain ⟨xs, hx, rfl⟩ := h
    exact ⟨hc, xs, hx, rfl⟩
  · exact absurd h (by simp)
theorem trod_array {t e : TypeId} {k n : Nat} {cs : List Value} {x : DataW H × List MemPlace} (hu : P.underlying t = some (.array k e)) (h : DataW.trod enc P w 0 sp held (n + 1) t cs = some x) :
    cs.length = P.cellsOf t ∧ ∃ xs, (List.range k).mapM (fun i => DataW.trod enc P w 0 sp held n e ((cs.drop (i * P.cellsOf e)).take (P.cellsOf e))) = some xs ∧ x.1 = .agg (xs.map (·.1)) := by
  unfold DataW.trod at h
  rw [hu] at h
  simp only at h
  split at h
  · rename_i hc
    simp only [Option.map_eq_some_iff] at h
    obtain ⟨xs, hx, rfl⟩ := h
    exact ⟨hc, xs, hx, rfl⟩
  · exact absurd h (by simp)
theorem cells_range {a : Addr} {n : Nat} {cs : List Value} (h : w.cells? 0 a n = some cs) (hn : 0 < n) : ∃ b o, a = ⟨b, o, none⟩ ∧ CellsAt w (InW w) b o cs := by
  have hblk := World.cells?_block h hn
  obtain ⟨_, hl, hc⟩ := World.cells?_some h
  have h0 := hc 0 hn
  obtain ⟨b, o, s⟩ := a
  have hs : s = none := by
    cases s with
    | none => rfl
    | some s =>
      have h1 : w.cell? ((⟨b, o, some s⟩ : Addr).add 0) = none := by
        simp only [Addr.add, if_true, World.cell?]
        split
        · simp
        · rfl
      rw [h1] at h0
      have : cs.length = 0 := by
        have := h0.symm
        rw [List.getElem?_eq_none_iff] at this
        omega
      omega
  subst hs
  refine ⟨b, o, rfl, fun j v hv => ⟨?_, hblk⟩⟩
  have := hc j (by rw [← hl]; exact getL hv)
  rw [hv] at this
  simpa [Addr.add_lit] using this
theorem mapM_cons_some {α β : Type} {f : α → Option β} {a : α} {l : List α} {r : List β} (h : (a :: l).mapM f = some r) : ∃ b r', f a = some b ∧ l.mapM f = some r' ∧ r = b :: r' := by
  rw [List.mapM_cons] at h
  cases ha : f a with
  | none => simp [ha] at h
  | some b =>
    cases hl : l.mapM f with
    | none => simp [ha, hl] at h
    | some r' => simp [ha, hl] at h; exact ⟨b, r', rfl, rfl, h.symm⟩
mutual
/-- data, as a claim says it -/
def sameD : D → DataW H → Prop
  | .int k n, d => d = .lit (.int k n)
  | .bool b, d => d = .lit (.bool b)
  | .str l, d => d = .lit (.string l)
  | .slice _ _, d => d = .nil ∨ ∃ a b, d = .slice a b
  | .agg fs, d => ∃ l, d = .agg l ∧ sameL fs l
def sameL : List D → List (DataW H) → Prop
  | [], l => l = []
  | y :: r, l => ∃ d s, l = d :: s ∧ sameD y d ∧ sameL r s
end
/-- a reading's elements lie there -/
def Read (P : Program) (w : World) (enc : TypeId × Value → H) (sp : Nat → Bool) (held : Bool) (n : Nat) (t : TypeId) : Prop :=
  ∀ (cs : List Value) (x : DataW H × List MemPlace), DataW.trod enc P w 0 sp held n t cs = some x → ∃ y, RepT P w (InW w) y t cs ∧ fineD y ∧ bulkD y ≤ Rows.uptoBulk x.1 ∧ sameD y x.1
theorem row_rep {n : Nat} {e : TypeId} (hz : 0 < P.cellsOf e) (ih : Read P w enc sp held n e) {a : Addr} : ∀ (len k : Nat) (elems : List (DataW H × List MemPlace)),
    (List.range' k len).mapM (fun i => (w.cells? 0 (a.add (i * P.cellsOf e)) (P.cellsOf e)).bind (DataW.trod enc P w 0 sp held n e)) = some elems →
    ∃ ys, ys.length = len ∧ (∀ b o, a = ⟨b, o, none⟩ → RepRow P w (InW w) ys e b (o + k * P.cellsOf e)) ∧ fineL ys ∧ bulkL ys ≤ Rows.uptoBulkAll (elems.map (·.1))
  | 0, k, elems, h => by
    simp at h; subst h
    exact ⟨[], rfl, fun b o _ => by simp only [RepRow], by simp only [fineL], by simp [bulkL, Rows.uptoBulkAll]⟩
  | len + 1, k, elems, h => by
    rw [List.range'_succ] at h
    obtain ⟨x, r, h1, h2, rfl⟩ := mapM_cons_some h
    obtain ⟨cs, h3, h4⟩ := Option.bind_eq_some_iff.1 h1
    obtain ⟨y, g1, g2, g3, _⟩ := ih cs x h4
    obtain ⟨ys, f1, f2, f3, f4⟩ := row_rep hz ih len (k + 1) r h2
    refine ⟨y :: ys, by simp [f1], fun b o ha => ?_, by simp only [fineL]; exact ⟨g2, f3⟩, by simp only [bulkL, List.map_cons, Rows.uptoBulkAll]; omega⟩
    simp only [RepRow]
    subst ha
    obtain ⟨b', o', hb, hc⟩ := cells_range h3 hz
    rw [Addr.add_lit] at hb
    cases hb
    exact ⟨cs, hc, g1, by have := f2 b o rfl; rw [Nat.succ_mul, ← Nat.add_assoc] at this; exact this⟩
theorem fields_rep {n m : Nat} (ih : ∀ t, dataTy P m t = true → Read P w enc sp held n t) {cs : List Value} : ∀ (fl : List Field) (o : Nat) (xs : List (DataW H × List MemPlace)), offsOk P o fl = true → (∀ f ∈ fl, dataTy P m f.type = true) →
    fl.mapM (fun f => DataW.trod enc P w 0 sp held n f.type ((cs.drop f.offset).take (P.cellsOf f.type))) = some xs → cs.length = o + sumCells P (fl.map (·.type)) →
    ∃ ys, RepFs P w (InW w) ys (fl.map (·.type)) (cs.drop o) ∧ fineL ys ∧ bulkL ys ≤ Rows.uptoBulkAll (xs.map (·.1)) ∧ sameL ys (xs.map (·.1))
  | [], o, xs, ho, ht, h, hl => by
    simp at h; subst h
    refine ⟨[], ?_, by simp only [fineL], by simp [bulkL, Rows.uptoBulkAll], by simp [sameL]⟩
    simp only [List.map_nil, sumCells, Nat.add_zero] at hl
    simp only [List.map_nil, RepFs, true_and]
    exact List.drop_eq_nil_of_le (by omega)
  | f :: fl, o, xs, ho, ht, h, hl => by
    obtain ⟨x, r, h1, h2, rfl⟩ := mapM_cons_some h
    simp only [offsOk, Bool.and_eq_true] at ho
    have hoff : f.offset = o := Nat.eq_of_beq_eq_true ho.1
    simp only [List.map_cons, sumCells] at hl
    obtain ⟨y, g1, g2, g3, g4⟩ := ih f.type (ht f (by simp)) _ x h1
    obtain ⟨ys, f1, f2, f3, f4⟩ := fields_rep ih fl (o + P.cellsOf f.type) r ho.2 (fun g hg => ht g (by simp [hg])) h2 (by omega)
    refine ⟨y :: ys, ?_, by simp only [fineL]; exact ⟨g2, f2⟩, by simp only [bulkL, List.map_cons, Rows.uptoBulkAll]; omega, by simp only [sameL, List.map_cons]; exact ⟨_, _, rfl, g4, f4⟩⟩
    simp only [List.map_cons, RepFs]
    refine ⟨f.type, _, _, _, rfl, ?_, g1, f1⟩
    rw [hoff, ← List.drop_drop, List.take_append_drop]
theorem parts_rep {n : Nat} {e : TypeId} (ih : Read P w enc sp held n e) {cs : List Value} : ∀ (len k : Nat) (xs : List (DataW H × List MemPlace)),
    (List.range' k len).mapM (fun i => DataW.trod enc P w 0 sp held n e ((cs.drop (i * P.cellsOf e)).take (P.cellsOf e))) = some xs → cs.length = (k + len) * P.cellsOf e →
    ∃ ys, ys.length = len ∧ RepFs P w (InW w) ys (List.replicate len e) (cs.drop (k * P.cellsOf e)) ∧ fineL ys ∧ bulkL ys ≤ Rows.uptoBulkAll (xs.map (·.1)) ∧ sameL ys (xs.map (·.1))
  | 0, k, xs, h, hl => by
    simp at h; subst h
    refine ⟨[], rfl, ?_, by simp only [fineL], by simp [bulkL, Rows.uptoBulkAll], by simp [sameL]⟩
    simp only [List.replicate_zero, RepFs, true_and]
    exact List.drop_eq_nil_of_le (by simpa using Nat.le_of_eq hl)
  | len + 1, k, xs, h, hl => by
    rw [List.range'_succ] at h
    obtain ⟨x, r, h1, h2, rfl⟩ := mapM_cons_some h
    obtain ⟨y, g1, g2, g3, g4⟩ := ih _ x h1
    obtain ⟨ys, f0, f1, f2, f3, f4⟩ := parts_rep ih len (k + 1) r h2 (by rw [hl]; congr 1; omega)
    refine ⟨y :: ys, by simp [f0], ?_, by simp only [fineL]; exact ⟨g2, f2⟩, by simp only [bulkL, List.map_cons, Rows.uptoBulkAll]; omega, by simp only [sameL, List.map_cons]; exact ⟨_, _, rfl, g4, f4⟩⟩
    simp only [List.replicate_succ, RepFs]
    refine ⟨e, _, _, _, rfl, ?_, g1, f1⟩
    rw [Nat.succ_mul, ← List.drop_drop, List.take_append_drop]
theorem trod_rep (hP : tabOk P = true) : ∀ (n m : Nat) (t : TypeId), dataTy P m t = true → Read P w enc sp held n t
  | 0, m, t, ht => fun cs x h => by simp [DataW.trod] at h
  | n + 1, 0, t, ht => by simp [dataTy] at ht
  | n + 1, m + 1, t, ht => fun cs x h => by
    have ih := trod_rep hP n
    simp only [dataTy] at ht
    split at ht
    · rename_i k hd
      have hu := ds_some hd (by simp)
      obtain ⟨i, rfl, h1, h2, h3⟩ := trod_int (und_lt hu).2 h
      exact ⟨.int k i, by simp [RepT, hu], by simp only [fineD]; exact ⟨h1, h2⟩, by rw [h3]; simp [bulkD, Rows.uptoBulk], by simp only [sameD]; exact h3⟩
    · rename_i hd
      have hu := ds_some hd (by simp)
      obtain ⟨b, rfl, h3⟩ := trod_bool (und_lt hu).2 h
      exact ⟨.bool b, by simp [RepT, hu], by simp only [fineD], by rw [h3]; simp [bulkD, Rows.uptoBulk], by simp only [sameD]; exact h3⟩
    · rename_i hd
      have hu := ds_some hd (by simp)
      obtain ⟨s, rfl, h3⟩ := trod_string (und_lt hu).2 h
      exact ⟨.str s.data.toList, by simp [RepT, hu], by simp only [fineD], by rw [h3]; simp [bulkD, Rows.uptoBulk], by simp only [sameD]; exact h3⟩
    · rename_i e hd
      have hu := ds_some hd (by simp)
      simp only [Bool.and_eq_true] at ht
      have hz : 0 < P.cellsOf e := by simpa [Nat.blt_eq] using ht.1
      rcases trod_slice (und_lt hu).2 h with ⟨rfl, h3⟩ | ⟨a, len, cap, elems, rest, rfl, hle, h3, hm⟩
      · exact ⟨.slice .nl [], by simp [RepT, hu, CapOK], by simp [fineD, fineL], by rw [h3]; simp [bulkD, bulkL, Rows.uptoBulk], by simp only [sameD]; exact .inl h3⟩
      · rw [List.range_eq_range'] at hm
        obtain ⟨ys, f1, f2, f3, f4⟩ := row_rep hz (ih m e ht.2) len 0 elems hm
        refine ⟨.slice .any ys, ?_, by simp only [fineD]; exact ⟨by simp, by simp, f3⟩, by rw [h3]; simp only [bulkD, Rows.uptoBulk]; omega, by simp only [sameD]; exact .inr ⟨_, _, h3⟩⟩
        simp only [RepT]
        refine ⟨e, some a, cap, hu, by rw [f1], ⟨by omega, fun hn => by simp at hn⟩, ?_⟩
        cases len with
        | zero => exact .inl (List.eq_nil_of_length_eq_zero f1)
        | succ len =>
          rw [List.range'_succ] at hm
          obtain ⟨x0, r, h1, _, _⟩ := mapM_cons_some hm
          obtain ⟨cs, h5, _⟩ := Option.bind_eq_some_iff.1 h1
          obtain ⟨b, o, hb, _⟩ := cells_range h5 hz
          rw [Nat.zero_mul] at hb
          have : a = ⟨b, o, none⟩ := by simpa [Addr.add] using hb
          exact .inr ⟨b, o, by rw [this], by have := f2 b o this; simpa using this⟩
    · rename_i fs hd
      have hu := ds_some hd (by simp)
      obtain ⟨hl, xs, hm, h3⟩ := trod_struct (und_lt hu).2 h
      obtain ⟨c1, c2⟩ := cells_struct hP hu
      obtain ⟨ys, f1, f2, f3, f4⟩ := fields_rep (fun t ht => ih m t ht) fs.toList 0 xs c1 (fun f hf => List.all_eq_true.1 ht f hf) hm (by rw [hl, c2]; omega)
      exact ⟨.agg ys, by simp only [RepT]; exact .inl ⟨fs, hu, f1⟩, by simp only [fineD]; exact f2, by rw [h3]; simp only [bulkD, Rows.uptoBulk]; omega, by simp only [sameD]; exact ⟨_, h3, f4⟩⟩
    · rename_i k e hd
      have hu := ds_some hd (by simp)
      obtain ⟨hl, xs, hm, h3⟩ := trod_array (und_lt hu).2 h
      rw [List.range_eq_range'] at hm
      obtain ⟨ys, f0, f1, f2, f3, f4⟩ := parts_rep (ih m e ht) k 0 xs hm (by rw [hl, cells_array hP hu]; simp)
      exact ⟨.agg ys, by simp only [RepT]; exact .inr ⟨k, e, hu, f0, by simpa using f1⟩, by simp only [fineD]; exact f2, by rw [h3]; simp only [bulkD, Rows.uptoBulk]; omega, by simp only [sameD]; exact ⟨_, h3, f4⟩⟩
    · exact absurd ht (by simp)
end
/-! ### package variables that are listed -/
mutual
def unDW {H : Type} : DataW H → Option D
  | .lit (.int k n) => some (.int k n)
  | .lit (.bool b) => some (.bool b)
  | .lit (.string l) => some (.str l)
  | .agg l => (unDWs l).map D.agg
  | _ => none
def unDWs {H : Type} : List (DataW H) → Option (List D)
  | [] => some []
  | d :: r => match unDW d, unDWs r with
    | some x, some xs => some (x :: xs)
    | _, _ => none
end
mutual
theorem unDW_same {H : Type} : ∀ (y : D) (d : DataW H) (x : D), sameD y d → unDW d = some x → y = x
  | .int k n, d, x, h, hx => by simp only [sameD] at h; subst h; simpa [unDW] using hx
  | .bool b, d, x, h, hx => by simp only [sameD] at h; subst h; simpa [unDW] using hx
  | .str l, d, x, h, hx => by simp only [sameD] at h; subst h; simpa [unDW] using hx
  | .slice c l, d, x, h, hx => by
    simp only [sameD] at h
    rcases h with rfl | ⟨a, b, rfl⟩ <;> simp [unDW] at hx
  | .agg fs, d, x, h, hx => by
    simp only [sameD] at h
    obtain ⟨l, rfl, h⟩ := h
    simp only [unDW] at hx
    obtain ⟨xs, h1, rfl⟩ := Option.map_eq_some_iff.1 hx
    rw [unDWs_same fs l xs h h1]
theorem unDWs_same {H : Type} : ∀ (ys : List D) (l : List (DataW H)) (xs : List D), sameL ys l → unDWs l = some xs → ys = xs
  | [], l, xs, h, hx => by simp only [sameL] at h; subst h; simpa [unDWs] using hx
  | y :: r, l, xs, h, hx => by
    simp only [sameL] at h
    obtain ⟨d, s, rfl, h1, h2⟩ := h
    simp only [unDWs] at hx
    split at hx
    · rename_i x xs' g1 g2
      cases hx
      rw [unDW_same y d x h1 g1, unDWs_same r s xs' h2 g2]
    · exact absurd hx (by simp)
end
theorem laid_get {P : Program} {w : World} : ∀ {l : List (String × DataW Unit)} {ps : List MemPlace}, DataW.LaidVars P w l ps → ∀ {n d}, (n, d) ∈ l →
    ∃ g t cs fuel p, P.globalNamed n = some g ∧ (P.globals[g]?).map (·.type) = some t ∧ w.var? P n = some cs ∧ DataW.trod (fun _ => ()) P w 0 (fun _ => true) false fuel t cs.toList = some (d, p)
  | [], _, _, _, _, hm => by cases hm
  | (n', d') :: r, ps, h, n, d, hm => by
    obtain ⟨g, t, cs, fuel, p, q, h1, h2, h3, h4, h5, _⟩ := h
    rcases List.mem_cons.1 hm with e | e
    · cases e; exact ⟨g, t, cs, fuel, p, h1, h2, h3, h4⟩
    · exact laid_get h5 e
theorem whole_of_var {P : Program} {w : World} {n : String} {g : Nat} {cs : Array Value} (h1 : P.globalNamed n = some g) (h3 : w.var? P n = some cs) : Whole w g cs.size := by
  unfold World.var? at h3
  rw [h1] at h3
  simp only [Option.bind_some] at h3
  split at h3
  · rename_i c el fr hc
    cases h3
    exact ⟨_, _, _, hc, rfl⟩
  · exact absurd h3 (by simp)
theorem glob_of {P : Program} (hP : tabOk P = true) {w : World} {l : List (String × DataW Unit)} (h : laidMet P l w) {n : String} {d : DataW Unit} (hm : (n, d) ∈ l) {g : Nat} {t : TypeId} (hg : P.globalNamed n = some g) (ht : (P.globals[g]?).map (·.type) = some t)
    (hd : dataTy P 12 t = true) {x : D} (hx : unDW d = some x) : ∃ vs, CellsAt w (InW w) g 0 vs ∧ RepT P w (InW w) x t vs ∧ (∀ fs, x = .agg fs → Whole w g vs.length) := by
  obtain ⟨ps, hl, _⟩ := h
  obtain ⟨g', t', cs, fuel, p, h1, h2, h3, h4⟩ := laid_get hl hm
  obtain rfl := Option.some.inj (hg.symm.trans h1)
  obtain rfl := Option.some.inj (ht.symm.trans h2)
  obtain ⟨y, g1, _, _, g4⟩ := trod_rep hP fuel 12 t hd _ _ h4
  obtain rfl := unDW_same y d x g4 hx
  refine ⟨cs.toList, fun j v hj => ?_, g1, fun _ _ => by rw [Array.length_toList]; exact whole_of_var h1 h3⟩
  have hc := World.var?_cell h1 h3 j
  rw [Nat.zero_add]
  have hj' : cs[j]? = some v := by simpa using hj
  rw [hj'] at hc
  refine ⟨hc, ?_⟩
  show g < w.heap.size
  unfold World.cell? at hc
  rcases Nat.lt_or_ge g w.heap.size with hlt | hge
  · exact hlt
  · simp [Array.getElem?_eq_none hge] at hc
/-- a listed variable of an interface's type holds an interface value -/
theorem if_of {P : Program} {w : World} {l : List (String × DataW Unit)} (h : laidMet P l w) {n : String} {d : DataW Unit} (hm : (n, d) ∈ l) {g : Nat} {t : TypeId} (hg : P.globalNamed n = some g) (ht : (P.globals[g]?).map (·.type) = some t)
    (hu : (match P.underlying t with | some (.interface _) => true | _ => false) = true) : IfAt w (InW w) g := by
  obtain ⟨ps, hl, _⟩ := h
  obtain ⟨g', t', cs, fuel, p, h1, h2, h3, h4⟩ := laid_get hl hm
  obtain rfl := Option.some.inj (hg.symm.trans h1)
  obtain rfl := Option.some.inj (ht.symm.trans h2)
  have hv : ∃ v, cs.toList = [v] ∧ (v = .nilIface ∨ ∃ t p, v = .iface t p) := by
    split at hu
    · rename_i ms hu'
      cases fuel with
      | zero => simp [DataW.trod] at h4
      | succ fuel =>
        unfold DataW.trod at h4
        rw [hu'] at h4
        rcases hcs : cs.toList with _ | ⟨v, _ | ⟨v2, r⟩⟩
        · rw [hcs] at h4; simp at h4
        · rw [hcs] at h4
          cases v with
          | nilIface => exact ⟨_, rfl, .inl rfl⟩
          | iface u q => exact ⟨_, rfl, .inr ⟨_, _, rfl⟩⟩
          | _ => simp at h4
        · rw [hcs] at h4; simp at h4
    · exact absurd hu (by simp)
  obtain ⟨v, hcs, hv⟩ := hv
  refine ⟨v, fun j x hj => ?_, hv⟩
  have hc := World.var?_cell h1 h3 j
  rw [Nat.zero_add]
  have hj' : cs[j]? = some x := by rw [← hcs] at hj; simpa using hj
  rw [hj'] at hc
  refine ⟨hc, ?_⟩
  show g < w.heap.size
  unfold World.cell? at hc
  rcases Nat.lt_or_ge g w.heap.size with hlt | hge
  · exact hlt
  · simp [Array.getElem?_eq_none hge] at hc
end Go.Proofs.Ytbdekjlnnbjicaa.V

/- The entry: a law's claim, from its contract over data. -/
namespace Go.Proofs.Ytbdekjlnnbjicaa.V
open Go Go.ChangeShapes
set_option linter.unusedVariables false
set_option linter.unusedSimpArgs false

/-- data of these types -/
def HasL (P : Program) (ys : List D) (ts : List TypeId) : Prop := ∃ (w : World) (S : Addr → Prop) (vs : List Value), RepFs P w S ys ts vs
def Has (P : Program) (y : D) (t : TypeId) : Prop := ∃ (w : World) (S : Addr → Prop) (vs : List Value), RepT P w S y t vs
def argsOf (P : Program) : List TypeId → List D → List AV
  | t :: ts, y :: ys => fromD P t y :: argsOf P ts ys
  | _, _ => []

section
variable {H : Type} {enc : TypeId × Value → H} {P : Program} {w w' : World} {sp : Nat → Bool} {held : Bool}

theorem val_of (hP : tabOk P = true) {r : Reach} {base : Nat} {t : TypeId} {v : Value} {y : D} (hok : Value.okWide P w r base t v) (h : RepT P w (InW w) y t v.cells.toList) : v = valOf P t v.cells.toList := by
  cases y with
  | agg fs =>
    rw [valOf_agg h]
    simp only [RepT] at h
    have hs : ∃ d, und P t = some d ∧ ((∃ f, d = .struct f) ∨ ∃ n e, d = .array n e) := by
      rcases h with ⟨f, h, _⟩ | ⟨n, e, h, _⟩
      · exact ⟨_, h, .inl ⟨_, rfl⟩⟩
      · exact ⟨_, h, .inr ⟨_, _, rfl⟩⟩
    obtain ⟨d, hd, hk⟩ := hs
    have hu := (und_lt hd).2
    unfold Value.okWide at hok
    rw [hu] at hok
    rcases hk with ⟨f, rfl⟩ | ⟨n, e, rfl⟩ <;> obtain ⟨cs, rfl, _⟩ := hok <;> simp [Value.cells]
  | int k n =>
    simp only [RepT] at h
    have hu := (und_lt h.1).2
    unfold Value.okWide at hok
    rw [hu] at hok
    cases v <;> simp [Cell.okWide, Cell.ok, hu] at hok
    simp [valOf, ds_of h.1, Value.cells]
  | bool b =>
    simp only [RepT] at h
    have hu := (und_lt h.1).2
    unfold Value.okWide at hok
    rw [hu] at hok
    cases v <;> simp [Cell.okWide, Cell.ok, hu] at hok
    simp [valOf, ds_of h.1, Value.cells]
  | str l =>
    simp only [RepT] at h
    have hu := (und_lt h.1).2
    unfold Value.okWide at hok
    rw [hu] at hok
    cases v <;> simp [Cell.okWide, Cell.ok, hu] at hok
    simp [valOf, ds_of h.1, Value.cells]
  | slice c xs =>
    simp only [RepT] at h
    obtain ⟨e, a, cap, h1, h2⟩ := h
    have hu := (und_lt h1).2
    unfold Value.okWide at hok
    rw [hu] at hok
    cases v <;> simp [Cell.okWide, Cell.ok, hu] at hok
    simp [valOf, ds_of h1, Value.cells]

theorem args_rep (hP : tabOk P = true) {σ : Loc} {ob : Objs} {r : Reach} {base : Nat} {m : Nat} : ∀ {ts : List TypeId} {vs : List Value} {ds : List (DataW H)} {ps : List MemPlace}, (∀ t ∈ ts, dataTy P m t = true) → DataW.TrodAll enc P w 0 sp held ts vs ds ps →
    (∀ (j : Nat) t v, ts[j]? = some t → vs[j]? = some v → Value.okWide P w r base t v) →
    ∃ ys cs, RepFs P w (InW w) ys ts cs ∧ fineL ys ∧ bulkL ys ≤ Rows.uptoBulkAll ds ∧ RepAs P w (InW w) σ ob (argsOf P ts ys) vs
  | [], vs, ds, ps, ht, h, hok => by
    obtain ⟨rfl, rfl, rfl⟩ := trodAll_nil h
    exact ⟨[], [], by simp [RepFs], by simp only [fineL], by simp [bulkL], by simp only [argsOf, RepAs]⟩
  | t :: ts, vs, ds, ps, ht, h, hok => by
    obtain ⟨v, vs', d, ds', p, q, rfl, rfl, rfl, ⟨n, h1⟩, h2⟩ := trodAll_cons h
    obtain ⟨ys, cs, f1, f2, f3, f4⟩ := args_rep hP (fun t ht' => ht t (by simp [ht'])) h2 (fun j t v h1 h2 => hok (j + 1) t v (by simpa using h1) (by simpa using h2))
    obtain ⟨y, g1, g2, g3, _⟩ := trod_rep hP n m t (ht t (by simp)) _ _ h1
    have hv := val_of hP (hok 0 t v rfl rfl) g1
    have g3 : bulkD y ≤ Rows.uptoBulk d := g3
    refine ⟨y :: ys, v.cells.toList ++ cs, ?_, by simp only [fineL]; exact ⟨g2, f2⟩, by simp only [bulkL, Rows.uptoBulkAll]; omega, ?_⟩
    · simp only [RepFs]; exact ⟨t, ts, _, _, rfl, rfl, g1, f1⟩
    · simp only [argsOf, RepAs]
      refine ⟨v, vs', rfl, ?_, f4⟩
      have := fromD_ok (σ := σ) (ob := ob) hP g1
      rw [← hv] at this
      exact this
theorem place_same {p : MemPlace} (hb : ∀ b, b < w.heap.size → w'.heap[b]? = w.heap[b]?) (hp : p.block < w.heap.size) : w.sameAt w' p := by
  cases p with
  | cell b off => exact cell_of_heap (hb b hp)
  | map b => exact hb b hp
theorem all_carry {base : Nat} : ∀ {ts : List TypeId} {vs : List Value} {ds : List (DataW H)} {ps : List MemPlace}, DataW.TrodAll enc P w base sp held ts vs ds ps → (∀ p ∈ ps, w.sameAt w' p) → DataW.TrodAll enc P w' base sp held ts vs ds ps
  | [], vs, ds, ps, h, _ => by
    obtain ⟨rfl, rfl, rfl⟩ := trodAll_nil h
    rfl
  | t :: ts, vs, ds, ps, h, hs => by
    obtain ⟨v, vs', d, ds', p, q, rfl, rfl, rfl, ⟨n, h1⟩, h2⟩ := trodAll_cons h
    exact ⟨p, q, ⟨n, DataW.trod_carry n t _ _ h1 (fun x hx => hs x (List.mem_append_left _ hx))⟩, all_carry h2 (fun x hx => hs x (List.mem_append_right _ hx)), rfl⟩

/-- behind the call: true; all that was there is as it was -/
theorem post_true {f : Func} {s : ChangeSpec} {fresh handsOn again : Bool} {W W' : World} {args : Array Value} {ds gs : List (DataW H)} {before : List MemPlace} {tb : TypeId}
    (hl : laidOutB P = true) (hm : mapsRowed P = true) (hz : ((List.range P.types.size).all fun t => match P.underlying t with | some (.slice e) => decide (0 < P.cellsOf e) | _ => true) = true)
    (hts : ∀ t ∈ f.params.toList, t < P.types.size) (hr : f.resultTypes = #[tb]) (hb : P.underlying tb = some .bool) (hv : s.vars = [])
    (hs : s.fn H ds = { results := [.lit (.bool true)], args := ds })
    (hW : DataW.Whole enc P f.params.toList s.vars false W args.toList ds gs before)
    (hold : ∀ b, b < W.heap.size → W'.heap[b]? = W.heap[b]?) (henv : W'.os = W.os ∧ W'.output = W.output) :
    s.post enc P f false fresh handsOn again W args (.bool true) W' := by
  have hW0 := hW
  obtain ⟨p, q, hA, hV, rfl, hfz, _⟩ := hW
  rw [hv] at hV
  obtain ⟨rfl, rfl⟩ := trodVars_none hV
  have hlt := DataW.TrodAll.lt hA
  have hcar := all_carry (w' := W') hA (fun x hx => place_same hold (hlt x hx))
  have hsp : ∀ sp' : Nat → Bool, (∀ x ∈ p, sp' x.block = true) → DataW.TrodAll enc P W' 0 sp' true f.params.toList args.toList ds p := fun sp' h =>
    DataW.TrodAll.respare (kids_rows hl hm) (slices_full_of P hz) hts hcar h
  have hrl : ((Value.bool true).resultList f.resultTypes.size) = [.bool true] := by rw [hr]; rfl
  have hres : ∀ (b : Nat) (sp' : Nat → Bool) (hd : Bool), DataW.TrodAll enc P W' b sp' hd f.resultTypes.toList ((Value.bool true).resultList f.resultTypes.size) [.lit (.bool true)] [] := fun b sp' hd => by
    rw [hrl, hr]
    exact trodAll_mk1 (Go.RowKit.shut_bool hb _)
  have hs' : s.fn H (ds ++ []) = { results := [.lit (.bool true)], args := ds } := by rw [List.append_nil]; exact hs
  refine ⟨ds, [], _, [], p, [], hW0, by rw [hs']; exact hres _ _ _, by rw [hs']; exact hsp _ (fun x hx => by simpa using hlt x hx), by rw [hs', hv]; rfl, ?_, fun _ => ⟨?_, ?_⟩⟩
  · refine ⟨henv.1, henv.2, fun i hi => ?_⟩
    rw [hold i hi]
    split
    · rename_i h1 h2
      rw [h1] at h2
      cases h2
      exact ⟨rfl, rfl, rfl, fun _ _ => rfl⟩
    · rename_i h1 h2
      rw [h1] at h2
      cases h2
      exact .inr ⟨rfl, rfl⟩
    · rfl
  · exact Go.RowKit.ok_one hr rfl (Go.RowKit.okWide_bool_mk hb _)
  · refine ⟨[.lit (.bool true)] ++ ds, [], ([] ++ p) ++ [], ⟨[] ++ p, [], trodAll_append (hsp _ (fun _ _ => rfl)) (hres _ _ _), by rw [hv]; rfl, rfl, ?_, by simp⟩, ?_⟩
    · intro b off hx
      have hx' : MemPlace.cell b off ∈ p := by simpa using hx
      rw [frozen_of_heap (hold b (hlt _ hx'))]
      exact hfz b off (by simpa using hx')
    · intro x hx _
      simpa using hx
/-- a law over data, with no package variable: what its claim asks -/
theorem contract_ok {Γ : Ctx} (hP : tabOk Γ.P = true) (hl : laidOutB Γ.P = true) (hm : mapsRowed Γ.P = true)
    (hz : ((List.range Γ.P.types.size).all fun t => match Γ.P.underlying t with | some (.slice e) => decide (0 < Γ.P.cellsOf e) | _ => true) = true) {f : FuncId} {fn : Func} {tb : TypeId} (hfn : Γ.P.funcs[f]? = some fn) (hbody : fn.body.isSome = true) (hname : (fn.name == "runtime.NumGoroutine") = false) (hts : (fn.params.toList.all fun t => dataTy Γ.P 12 t) = true)
    (hr : fn.resultTypes = #[tb]) (hb : Γ.P.underlying tb = some .bool) {s : ChangeSpec} (hv : s.vars = []) (hs : ∀ ds : List (DataW H), ds.length = fn.params.size → s.fn H ds = { results := [.lit (.bool true)], args := ds })
    (law : ∀ ys, HasL Γ.P ys fn.params.toList → fineL ys → bulkL ys ≤ 1048576 → Ret Γ f (argsOf Γ.P fn.params.toList ys) (.b true))
    {fresh handsOn again : Bool} (W : World) (hG : GlobOK Γ W (InW W)) (base : Nat) (args : Array Value) (ds gs : List (DataW H)) (before : List MemPlace)
    (hval : ∀ (j : Nat) t v, fn.params[j]? = some t → args[j]? = some v → Value.okWide Γ.P W .any base t v)
    (hW : DataW.Whole enc Γ.P fn.params.toList s.vars false W args.toList ds gs before) (hk : Rows.uptoSmall H (ds ++ gs) = true) :
    Calls Γ.P f args W fun e W' => ∃ v, e = .returned v ∧ s.post enc Γ.P fn false fresh handsOn again W args v W' := by
  have hW0 := hW
  obtain ⟨p, q, hA, hV, rfl, _, _⟩ := hW
  rw [hv] at hV
  obtain ⟨rfl, rfl⟩ := trodVars_none hV
  have hts' : ∀ t ∈ fn.params.toList, dataTy Γ.P 12 t = true := List.all_eq_true.1 hts
  obtain ⟨ys, cs, f1, f2, f3, f4⟩ := args_rep (σ := noLoc) (ob := []) hP hts' hA (fun j t v h1 h2 => hval j t v (by simpa using h1) (by simpa using h2))
  have hbulk : bulkL ys ≤ 1048576 := by
    have h := of_decide_eq_true hk
    rw [List.append_nil] at h
    exact Nat.le_trans f3 h
  have hret := law ys ⟨W, _, cs, f1⟩ f2 hbulk W (InW W) args.toList (fun a h => h) hG f4
  have hrun : (callFunc f args.toList.toArray).run Γ.P W = .ok (.enter f args) W := by
    have hne : ¬ fn.name = "runtime.NumGoroutine" := by simpa using hname
    obtain ⟨c, hc⟩ := Option.isSome_iff_exists.1 hbody
    simp [callFunc, hfn, hc, hne]
  rw [hrun] at hret
  have hlen : ds.length = fn.params.size := by
    have : ∀ {ts : List TypeId} {vs : List Value} {ds : List (DataW H)} {ps : List MemPlace}, DataW.TrodAll enc Γ.P W 0 (fun _ => true) true ts vs ds ps → ds.length = ts.length := by
      intro ts
      induction ts with
      | nil => intro vs ds ps h; obtain ⟨rfl, rfl, rfl⟩ := trodAll_nil h; rfl
      | cons t ts ih =>
        intro vs ds ps h
        obtain ⟨v, vs', d, ds', p, q, rfl, rfl, rfl, _, h2⟩ := trodAll_cons h
        simp [ih h2]
    simpa using this hA
  refine Calls.mono hret fun e W' ⟨v, he, S', hleft, hrep⟩ => ⟨v, he, ?_⟩
  simp only [RepA] at hrep
  subst hrep
  refine post_true hl hm hz (fun t ht => ?_) hr hb hv (hs ds hlen) hW0 hleft.same hleft.env
  have := hts' t ht
  simp only [dataTy] at this
  split at this
  all_goals first | (rename_i hd; exact (und_lt (ds_some hd (by simp))).1) | (exact absurd this (by simp))
end
end Go.Proofs.Ytbdekjlnnbjicaa.V
