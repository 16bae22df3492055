/- FrAE, FrAH, FrS, FrT, FrU, FrAC, FrAD, FrV: texts of this claim, put together in build order by program. -/
import Derived.Test.YtbdekjlnnbjicaaBf
import Derived.Lib.UnsafeStr
import Derived.Lib.Builder
/- Operations. Addresses: the very same one; made unsafe and back; the text that lies in a row. -/
namespace Go.Proofs.Ytbdekjlnnbjicaa.V
open Go
set_option linter.unusedVariables false
set_option linter.unusedSimpArgs false

section
variable {P : Program} {Γ : Ctx} {w0 : World} {S0 : Addr → Prop} {X : XB} {w w' : World} {S S' : Addr → Prop} {σ σ' : Loc} {ob ob' : Objs} {R : Type}

theorem eqP_spec : ∀ {p q : List Nat}, eqP p q = true → p = q
  | [], [], _ => rfl
  | a :: r, b :: s, h => by
    simp only [eqP, Bool.and_eq_true] at h
    rw [beq_id h.1, eqP_spec h.2]
  | [], _ :: _, h => by simp [eqP] at h
  | _ :: _, [], h => by simp [eqP] at h
theorem info_some {P : Program} {t : TypeId} (h : (P.info? t).isSome = true) : ∃ j, P.info? t = some j := Option.isSome_iff_exists.1 h
theorem run_eq_ptr_same {P : Program} (w : World) {tp te : TypeId} {j : TypeInfo} (a : Addr) (hp : P.underlying tp = some (.pointer te)) (hte : P.info? te = some j) :
    (binOp .eql tp (.pointer (some a)) (.pointer (some a))).run P w = .ok (.bool true) w := by
  have h : ∀ d : Nat, (Op.equalIn (d + 1) tp (.pointer (some a)) (.pointer (some a))).run P w = .ok true w := fun d => by
    simp [Op.equalIn, run_underlying hp, sizeOf, typeInfo, hte, run_sameAddr_same]
  simp only [binOp]
  simp [Op.equal, Op.maxDepth, h 9999]
theorem ptrEq_ok {op : BinOp} {t : TypeId} {x y : AV} {v u : Value} {K : AV → Option R} {r : R} (h : opPtrEq Γ.P op t x y ob K = some r) (h1 : RepA Γ.P w S σ ob x v) (h2 : RepA Γ.P w S σ ob y u) :
    ∃ av, K av = some r ∧ BinGood Γ.P w S σ ob op t v u av := by
  unfold opPtrEq at h
  split at h
  · rename_i j p t1 j' p' t2
    split at h
    · rename_i tb c e hob hd
      obtain ⟨hc, h9⟩ := cond_some h
      clear h
      simp only [Bool.and_eq_true] at hc
      obtain rfl := beq_id hc.1.1
      obtain rfl := eqP_spec hc.1.2
      obtain ⟨ji, hj⟩ := info_some hc.2
      simp only [RepA] at h1 h2
      obtain ⟨_, b, off, rfl, h1⟩ := h1
      obtain ⟨_, b', off', rfl, h2⟩ := h2
      obtain ⟨rfl, g1⟩ := h1 _ _ hob
      obtain ⟨rfl, g2⟩ := h2 _ _ hob
      rw [g1] at g2
      cases g2
      have hu := (und_lt (ds_some hd (by simp))).2
      split at h9
      · exact ⟨_, h9, .bool true, by simp only [RepA], fun xo yo => by
          simp only [Sem.run_bind, eqGuard]
          simp [run_eq_ptr_same w _ hu hj]⟩
      · exact ⟨_, h9, .bool false, by simp only [RepA], fun xo yo => by
          simp only [Sem.run_bind, eqGuard]
          simp [Lib.run_neq_ptr_same w _ hu hj]⟩
      · exact absurd h9 (by simp)
    · exact absurd h (by simp)
  · exact absurd h (by simp)

theorem lies_under {P : Program} {el u : TypeId} {count n : Nat} (hs : underId P el = underId P u) (hc : P.cellsOf el ≠ 0) (hn : n ≤ count) : liesAt P P.depth el count 0 u n = true := by
  have hd : P.depth = (2 * (P.types.size + Made.depth) + 1) + 1 := rfl
  have hs' : P.underlyingId el = P.underlyingId u := hs
  rw [hd]
  simp only [liesAt, Bool.or_eq_true]
  left
  rw [hd]
  simp [rowAt, hc, hn, sameLayout, hs']
theorem size_spec {P : Program} {t : TypeId} (h : sizeB P t = true) : ∃ j, P.info? t = some j ∧ j.size ≠ 0 := by
  unfold sizeB at h
  split at h
  · rename_i j hj
    simp only [Bool.not_eq_true'] at h
    exact ⟨j, hj, fun e => by rw [e] at h; simp at h⟩
  · simp at h
theorem ptrConv_ok (hP : tabOk Γ.P = true) (hM : MemOK Γ w0 S0 X w S σ ob) {src dst : TypeId} {x : AV} {vx : Value} {K : AV → Option R} {r : R} (hx : RepA Γ.P w S σ ob x vx) (h : opPtrConv Γ.P src dst x ob K = some r) :
    ∃ av, K av = some r ∧ ∃ cv, RepA Γ.P w S σ ob av cv ∧ (convert src dst vx).run Γ.P w = .ok cv w := by
  unfold opPtrConv at h
  split at h
  · rename_i j u
    split at h
    · rename_i tb c hob
      have hx' := hx
      simp only [RepA] at hx
      obtain ⟨_, b, off, rfl, hx⟩ := hx
      obtain ⟨rfl, ho⟩ := hx _ _ hob
      simp only [offP] at ho
      obtain ⟨_, _, ho⟩ := Option.map_eq_some_iff.1 ho
      cases ho
      have hO := hM.objs j _ hob
      simp only [ObjAt] at hO
      obtain ⟨vs, el, fr, hb, _, ⟨ht, hel, hce⟩, hl, _, _, _⟩ := hO
      have hsh : w.shape? (σ j).1 = some (el, vs.length) := by unfold World.shape?; rw [hb]; simp
      split at h
      · rename_i t hs hd
        obtain ⟨hc, h9⟩ := cond_some h
        clear h
        simp only [Bool.and_eq_true] at hc
        obtain ⟨ji, hj, hj0⟩ := size_spec hc.2
        have h0 : 0 < Γ.P.cellsOf tb := by simpa [Nat.blt_eq] using hc.1.2
        have hd := (und_lt (ds_some hd (by simp))).2
        exact ⟨_, h9, _, hx', Lib.run_to_unsafe w ⟨(σ j).1, 0, none⟩ (und_lt hs).2 hd hj hj0 hsh (by show 0 < vs.length; rw [hl]; exact h0)⟩
      · rename_i t hs hd
        obtain ⟨hc, h9⟩ := cond_some h
        clear h
        simp only [Bool.and_eq_true] at hc
        have htb := beq_id hc.1.1
        obtain ⟨ji, hj, hj0⟩ := size_spec hc.2
        have h0 : 0 < Γ.P.cellsOf tb := by simpa [Nat.blt_eq] using hc.1.2
        have hd := (und_lt (ds_some hd (by simp))).2
        refine ⟨_, h9, _, hx', Lib.run_from_unsafe w ⟨(σ j).1, 0, none⟩ (und_lt hs).2 hd hj hsh (lies_under (hel.trans htb) (by omega) ?_)⟩
        rw [hl, ← hce]
        exact Nat.le_of_eq (Nat.div_self (by omega)).symm
      · exact absurd h (by simp)
    · exact absurd h (by simp)
  · rename_i j i p u
    split at h
    · rename_i tb c hob
      have hx' := hx
      simp only [RepA] at hx
      obtain ⟨_, b, off, rfl, hx⟩ := hx
      obtain ⟨rfl, ho⟩ := hx _ _ hob
      have hO := hM.objs j _ hob
      simp only [ObjAt] at hO
      obtain ⟨vs, el, fr, hb, _, _, hl, hbox, _, _⟩ := hO
      have hsh : w.shape? (σ j).1 = some (el, vs.length) := by unfold World.shape?; rw [hb]; simp
      split at h
      · rename_i t _ hs hd hn
        obtain ⟨hc, h9⟩ := cond_some h
        simp only [Bool.and_eq_true] at hc
        obtain ⟨ji, hj, hj0⟩ := size_spec hc.2
        have h0 : 0 < Γ.P.cellsOf u := by simpa [Nat.blt_eq] using hc.1
        have hd := (und_lt (ds_some hd (by simp))).2
        obtain ⟨res, A, V, B, _, hvs, hA, hF⟩ := navA_ok hP (i :: p) c tb vs off u _ _ hbox ho hn
        have hV : 0 < V.length := by
          cases res with
          | inl a =>
            obtain ⟨hf, v1, hv1, g2⟩ := hF
            have := (fits_size hP a u v1 hf g2).1
            rw [← hv1]
            simp only [Array.length_toList]
            omega
          | inr y =>
            have hF : RepT Γ.P w S y u V := hF
            have := RepT.size hP _ _ _ hF
            omega
        exact ⟨_, h9, _, hx', Lib.run_to_unsafe w ⟨(σ j).1, off, none⟩ (und_lt hs).2 hd hj hj0 hsh (by show off < vs.length; rw [hvs]; simp; omega)⟩
      · exact absurd h (by simp)
    · exact absurd h (by simp)
  · exact absurd h (by simp)

theorem ap_of_ref (hM : MemOK Γ w0 S0 X w S σ ob) {e e' : TypeId} {j : Nat} {xs : List D} {fz : Bool} {v : Value} (hob : ob[j]? = some (some (.arr e' xs fz))) (h : RepA Γ.P w S σ ob (.ref e j) v) :
    ∃ cap, v = .slice (some ⟨(σ j).1, 0, none⟩) xs.length cap ∧ xs.length ≤ cap ∧ e' = e ∧ RepA Γ.P w S σ ob (.ap j 0 [] (underId Γ.P e)) (.pointer (some ⟨(σ j).1, 0, none⟩)) := by
  simp only [RepA] at h ⊢
  obtain ⟨hl, b, n, cap, rfl, ha⟩ := h
  obtain ⟨rfl, rfl, rfl, rfl⟩ := ha _ _ _ hob
  have hO := hM.objs j _ hob
  simp only [ObjAt] at hO
  obtain ⟨cs, el, fr, hb, hnf, hcs, hle, hrow, ⟨⟨dd, hdd⟩, hel, hce⟩, hS⟩ := hO
  refine ⟨_, rfl, hle, rfl, hl, _, _, rfl, fun e2 xs2 fz2 h2 => ?_⟩
  rw [hob] at h2
  cases h2
  exact ⟨rfl, 0, by simp [offP, hdd], by simp⟩

theorem run_loadInts : ∀ (l : List Int) (a : Addr) (acc : ByteArray), (∀ j n, l[j]? = some n → w.cell? (a.add j) = some (.int .u8 n)) →
    (loadBytes a acc l.length).run P w = .ok ⟨acc.data ++ (l.map fun n => UInt8.ofNat n.toNat).toArray⟩ w
  | [], a, acc, _ => by simp [loadBytes]
  | n :: l, a, acc, h => by
    have h0 : w.cell? a = some (.int .u8 n) := by
      have := h 0 n rfl
      simpa [Addr.add] using this
    have ih := run_loadInts l (a.add 1) (acc.push (UInt8.ofNat n.toNat)) (fun j y hy => by
      have := h (j + 1) y (by simpa using hy)
      have e : (a.add 1).add j = a.add (j + 1) := by
        unfold Addr.add
        by_cases hj : j = 0
        · subst hj; simp
        · simp [hj]; omega
      rw [e]; exact this)
    have hx : n.toNat.toUInt8 = UInt8.ofNat n.toNat := rfl
    simp only [List.length_cons, loadBytes, Sem.run_bind, run_load, h0, Result.andThen, hx]
    rw [ih]
    congr 1
    apply ByteArray.ext
    simp [ByteArray.push]
/-- unsafe.String over the head of a row of bytes -/
theorem run_unsafeStr (pt it ty e el : TypeId) (hp : P.underlying pt = some (.pointer e)) (g cells : Nat) (hsh : w.shape? g = some (el, cells)) (l : List Int) (h0 : l ≠ []) (hlies : liesAt P P.depth el (cells / P.cellsOf el) 0 e l.length = true) (h63 : l.length ≤ 9223372036854775807)
    (hcell : ∀ j x, l[j]? = some x → w.cell? ((⟨g, 0, none⟩ : Addr).add j) = some (.int .u8 x)) :
    (Builtin.unsafeString_ #[pt, it] ty #[.pointer (some ⟨g, 0, none⟩), .int .i64 l.length]).run P w = .ok (.string ⟨(l.map fun n => UInt8.ofNat n.toNat).toArray⟩) (w.freeze ⟨g, 0, none⟩ l.length) := by
  have hl : l.length ≠ 0 := by simpa using h0
  have hlb := run_loadInts (P := P) (w := w) l ⟨g, 0, none⟩ .empty hcell
  have h63' : ¬ (9223372036854775807 : Int) < (l.length : Int) := by omega
  change Sem.run P (bind (asInt (.int .i64 l.length)) _) w = _
  have hmax : IntKind.i64.max = 9223372036854775807 := rfl
  have hneg : ¬ (l.length : Int) < 0 := by omega
  simp [asInt, asIntOf, hmax, h63', hneg, hl, variablesAt, hsh, elemOf, run_underlying hp, hlies, hlb]
theorem onNil_ne {α : Type} {l : List α} {B : Option R} {r : R} (h : onNil l none B = some r) : l ≠ [] ∧ B = some r := by
  cases l with
  | nil => simp [onNil] at h
  | cons a l => exact ⟨by simp, h⟩
theorem sliceData_ok (hM : MemOK Γ w0 S0 X w S σ ob) {ts : List TypeId} {x : AV} {v : Value} {ty : TypeId} {K : AV → Objs → Option R} {r : R} (hx : RepA Γ.P w S σ ob x v) (h : opBuiltin Γ.P .unsafeSliceData ts [x] ob K = some r) :
    Out Γ w0 S0 X w S σ ob K r (Builtin.unsafeSliceData_ ts.toArray ty #[v]) := by
  simp only [opBuiltin] at h
  split at h
  · rename_i e j
    split at h
    · rename_i e' xs fz hob
      obtain ⟨hne, h9⟩ := onNil_ne h
      obtain ⟨cap, rfl, hle, rfl, hr⟩ := ap_of_ref hM hob hx
      have : 0 < xs.length := by cases xs with | nil => exact absurd rfl hne | cons _ _ => simp
      exact out_same hM h9 (Lib.run_unsafeSliceData_row w _ _ _ _ _ (by omega)) hr
    · exact absurd h (by simp)
  · simp only [RepA] at hx; subst hx
    exact out_same hM h (Lib.run_unsafeSliceData_nil w _ _ _ _) (by simp only [RepA])
  · simp only [RepA] at hx
    obtain ⟨a, cap, rfl, hc, _⟩ := hx
    simp only [CapOK] at hc
    obtain ⟨rfl, _, _⟩ := hc
    exact out_same hM h (Lib.run_unsafeSliceData_nil w _ _ _ _) (by simp only [RepA])
  · exact absurd h (by simp)
theorem uString_ok (hP : tabOk Γ.P = true) (hM : MemOK Γ w0 S0 X w S σ ob) {pt it : TypeId} {p : AV} {n : Int} {v : Value} {ty : TypeId} {K : AV → Objs → Option R} {r : R} (hx : RepA Γ.P w S σ ob p v) (h : opBuiltin Γ.P .unsafeString [pt, it] [p, .i .i64 n] ob K = some r) :
    Out Γ w0 S0 X w S σ ob K r (Builtin.unsafeString_ #[pt, it] ty #[v, .int .i64 n]) := by
  simp only [opBuiltin] at h
  split at h
  · obtain ⟨hn, h9⟩ := cond_some h
    have hn : n = 0 := by simpa using hn
    subst hn
    simp only [RepA] at hx; subst hx
    exact out_same hM h9 (Lib.run_unsafeString_none w _ _ _ _) (by simp only [RepA]; exact ⟨_, rfl, rfl⟩)
  · rename_i j u
    split at h
    · rename_i e0 hpt
      split at h
      · rename_i he0
        split at h
        · rename_i e xs fz hob
          obtain ⟨hc, h9⟩ := cond_some h
          clear h
          simp only [Bool.and_eq_true, decide_eq_true_eq] at hc
          obtain ⟨⟨hce0, hn⟩, h63⟩ := hc
          have hn : n = xs.length := by simpa using hn
          obtain rfl := beq_id hce0
          subst hn
          obtain ⟨hne, h9⟩ := onNil_ne h9
          unfold kBytes at h9
          cases hub : unBytes xs with
          | none => simp [hub] at h9
          | some l =>
            rw [hub] at h9
            simp only at h9
            have hd0 := ds_some he0 (by simp)
            have hpt := (und_lt (ds_some hpt (by simp))).2
            simp only [RepA] at hx
            obtain ⟨_, b, off, rfl, ha⟩ := hx
            obtain ⟨rfl, o, ho, rfl⟩ := ha _ _ _ hob
            simp only [offP] at ho
            obtain ⟨_, _, ho⟩ := Option.map_eq_some_iff.1 ho
            cases ho
            have hO := hM.objs j _ hob
            simp only [ObjAt] at hO
            obtain ⟨cs, el, fr, hb, hnf, hcs, hle, hrow, ⟨⟨dd, hdd⟩, hel, hce⟩, hS⟩ := hO
            obtain ⟨vs, g1, g2⟩ := RowV.flat hP hrow
            have g1 := RepFs.back hP hd0 g1
            have hlen := RepFs.size hP _ _ _ g1
            rw [sumCells_replicate, cells_int hP hd0, Nat.mul_one] at hlen
            obtain ⟨u1, u2, _, _⟩ := underId_spec hP hd0
            obtain ⟨ns, rfl, rfl⟩ := unBytes_spec g1 hub
            have hll : ns.length = xs.length := by simpa using hlen
            have hc1 : Γ.P.cellsOf el = 1 := by rw [hce, u2, cells_int hP hd0]
            have hsh : w.shape? (σ j).1 = some (el, cs.size) := by unfold World.shape?; rw [hb]
            have hrun := run_unsafeStr (w := w) (P := Γ.P) pt it ty e0 el hpt (σ j).1 cs.size hsh ns (by rintro rfl; apply hne; apply List.eq_nil_of_length_eq_zero; simpa using hll.symm) (lies_under hel (by omega) (by
              rw [hc1, Nat.div_one, hcs, u2, cells_int hP hd0, Nat.mul_one, hll]; exact hle)) (by rw [hll]; exact Int.ofNat_le.1 h63) (by
              intro q x hq
              have := g2 q (.int .u8 x) (by rw [List.getElem?_map, hq]; rfl)
              rw [Addr.add_lit]
              exact this)
            rw [hll] at hrun
            have hown := hM.own j _ hob
            have t1 := hM.kill j
            have t2 := t1.1.touch (w' := w.freeze ⟨(σ j).1, 0, none⟩ xs.length) (b := (σ j).1) hown.1 (fun k o hk => by
              obtain ⟨h1, h2⟩ := get_kill hk
              exact hM.apart k j _ _ h2 hob h1) (fun b' hb' => freeze_heap _ _ _ hb') (freeze_size _ _) (fun a ha => ⟨freeze_cell _ _ _, ha⟩) (fun n hn => freeze_whole _ _ hn) (freeze_env _ _)
            refine ⟨_, _, h9, .string ⟨(ns.map fun n => UInt8.ofNat n.toNat).toArray⟩, w.freeze ⟨(σ j).1, 0, none⟩ xs.length, S, σ, ?_, t1.trans t2, ?_⟩
            · simp only [Nat.zero_mul, Nat.zero_add]
              exact hrun
            · simp only [RepA]
              exact ⟨_, by simp, rfl⟩
        · exact absurd h (by simp)
      · exact absurd h (by simp)
    · exact absurd h (by simp)
  · exact absurd h (by simp)
end
end Go.Proofs.Ytbdekjlnnbjicaa.V

/- Operations: elements are copied over others, in a part of a row or of an array. -/
namespace Go.Proofs.Ytbdekjlnnbjicaa.V
open Go
set_option linter.unusedVariables false
set_option linter.unusedSimpArgs false

section
variable {Γ : Ctx} {w0 : World} {S0 : Addr → Prop} {X : XB} {w w' : World} {S S' : Addr → Prop} {σ σ' : Loc} {ob ob' : Objs} {R : Type}

theorem putCs_get {cs vs : List Value} {o q : Nat} (h : o + vs.length ≤ cs.length) : (putCs cs o vs)[q]? = if q < o then cs[q]? else if q < o + vs.length then vs[q - o]? else cs[q]? := by
  unfold putCs
  have hl : (cs.take o).length = o := by rw [List.length_take]; omega
  split
  · rw [List.append_assoc, List.getElem?_append_left (by omega), List.getElem?_take_of_lt (by omega)]
  · split
    · rw [List.append_assoc, List.getElem?_append_right (by omega), List.getElem?_append_left (by omega), hl]
    · rw [List.append_assoc, List.getElem?_append_right (by omega), List.getElem?_append_right (by omega), List.getElem?_drop, hl]
      congr 1; omega
theorem RepFs.cut {P : Program} (hP : tabOk P = true) : ∀ (i : Nat) {xs : List D} {ts : List TypeId} {vs : List Value}, RepFs P w S xs ts vs → i ≤ xs.length →
    ∃ a b, vs = a ++ b ∧ a.length = sumCells P (ts.take i) ∧ RepFs P w S (xs.take i) (ts.take i) a ∧ RepFs P w S (xs.drop i) (ts.drop i) b
  | 0, xs, ts, vs, h, _ => ⟨[], vs, rfl, rfl, by simp [RepFs], by simpa using h⟩
  | i + 1, [], ts, vs, h, hi => by simp at hi
  | i + 1, x :: r, ts, vs, h, hi => by
    simp only [RepFs] at h
    obtain ⟨t, ts', v1, v2, rfl, rfl, h3, h4⟩ := h
    obtain ⟨a, b, rfl, h5, h6, h7⟩ := RepFs.cut hP i h4 (by simpa using hi)
    refine ⟨v1 ++ a, b, by simp, by simp only [List.length_append, List.take_succ_cons, sumCells, h5, RepT.size hP _ _ _ h3], ?_, by simpa using h7⟩
    simp only [List.take_succ_cons, RepFs]
    exact ⟨t, _, v1, a, rfl, rfl, h3, h6⟩
theorem RepFs.to {P : Program} (hP : tabOk P = true) {e e' : TypeId} (he : ∃ d, und P e' = some d) (hu : underId P e = underId P e') : ∀ {xs : List D} {n : Nat} {vs : List Value}, RepFs P w S xs (List.replicate n e) vs → RepFs P w S xs (List.replicate n e') vs
  | [], n, vs, h => by
    simp only [RepFs] at h ⊢
    cases n with
    | zero => exact h
    | succ n => exact absurd h.1 (by simp [List.replicate_succ])
  | d :: r, n, vs, h => by
    cases n with
    | zero => simp [RepFs] at h
    | succ n =>
      simp only [RepFs, List.replicate_succ] at h ⊢
      obtain ⟨t, ts', v1, v2, h1, rfl, h3, h4⟩ := h
      simp only [List.cons.injEq] at h1
      obtain ⟨rfl, rfl⟩ := h1
      refine ⟨e', _, v1, v2, rfl, rfl, ?_, RepFs.to hP he hu h4⟩
      have := h3.under hP
      rw [hu] at this
      exact this.back hP he
theorem storeCells_go {P : Program} {b o : Nat} {vs : List Value} {cs : List Value} {el : TypeId} {fr : Nat × Nat} (h1 : ∀ x ∈ vs, x.oneCell' = true) (hb : w.heap[b]? = some (.cells cs.toArray el fr)) (hf : NF fr cs.length) (hl : o + vs.length ≤ cs.length) :
    (storeCells ⟨b, o, none⟩ vs).run P w = .ok () (w.setCells b o vs) := by
  have hcell : ∀ j, j < vs.length → (w.cell? ⟨b, o + 0 + j, none⟩).isSome = true := by
    intro j hj
    simp only [World.cell?, hb, Nat.add_zero]
    simp only [Option.isSome_none, Bool.false_eq_true, if_false]
    rw [Array.getElem?_eq_getElem (by simp; omega)]
    rfl
  have hfr : ∀ j, j < vs.length → w.frozen? ⟨b, o + 0 + j, none⟩ = false := by
    intro j hj
    simp only [World.frozen?, hb, Nat.add_zero]
    have := hf (o + j) (by omega)
    simpa using this
  have := run_storeCells_cells (P := P) b o vs 0 w hcell hfr h1
  simpa using this
/-- the first cells of a source -/
theorem pre_ok (hP : tabOk Γ.P = true) (hM : MemOK Γ w0 S0 X w S σ ob) {e0 : TypeId} {d : TypeDesc} {x : AV} {vx : Value} {ys : List D} (he : und Γ.P e0 = some d)
    (h : elems Γ.P (underId Γ.P e0) ob x = some ys) (hx : RepA Γ.P w S σ ob x vx) (m : Nat) (hm : m ≤ ys.length) :
    ∃ news, (Builtin.lenOf vx).run Γ.P w = .ok ys.length w ∧ (Builtin.firstCells (Γ.P.cellsOf e0) m vx).run Γ.P w = .ok news.toArray w ∧ RepFs Γ.P w S (ys.take m) (List.replicate m e0) news := by
  obtain ⟨u1, u2, _, u4⟩ := underId_spec hP he
  have mk : ∀ {a : Addr} {n c : Nat} {news : List Value}, news.length = m * Γ.P.cellsOf e0 → (∀ (j : Nat) (u : Value), news[j]? = some u → w.cell? (a.add j) = some u) →
      (Builtin.firstCells (Γ.P.cellsOf e0) m (.slice (some a) n c)).run Γ.P w = .ok news.toArray w := fun {a n c news} h1 h2 => run_firstCells_some w _ m a n c news h1 h2
  cases x <;> simp only [elems] at h
  case snil =>
    cases h
    simp only [RepA] at hx; subst hx
    obtain rfl : m = 0 := by simpa using hm
    exact ⟨[], rfl, run_firstCells_none w _ 0 0 0, by simp [RepFs]⟩
  case sl e' c xs =>
    obtain ⟨hb, h2⟩ := cond_some h
    obtain rfl := beq_id hb
    clear h
    cases h2
    simp only [RepA] at hx
    obtain ⟨a, cap, rfl, hc, hr⟩ := hx
    rcases hr with rfl | ⟨b, o, rfl, hr⟩
    · obtain rfl : m = 0 := by simpa using hm
      refine ⟨[], rfl, ?_, by simp [RepFs]⟩
      cases a with
      | none => exact run_firstCells_none w _ 0 _ _
      | some a => exact mk (by simp) (fun j u hu => by simp at hu)
    · obtain ⟨vs, h1, h2⟩ := RowV.flat hP (RepRow.take m hr).toV
      have h1 := RepFs.back hP he h1
      rw [List.length_take, Nat.min_eq_left hm] at h1
      have hs := RepFs.size hP _ _ _ h1
      rw [sumCells_replicate] at hs
      exact ⟨vs, rfl, mk hs (fun j u hu => by rw [Addr.add_lit]; exact h2 j u hu), h1⟩
  case ref e' j =>
    obtain ⟨hb, h2⟩ := cond_some h
    obtain rfl := beq_id hb
    clear h
    split at h2
    · rename_i e1 xs fz hob
      cases h2
      simp only [RepA] at hx
      obtain ⟨_, b, n, cap, rfl, ha⟩ := hx
      obtain ⟨rfl, rfl, rfl, rfl⟩ := ha _ _ _ hob
      have hO := hM.objs j _ hob
      simp only [ObjAt] at hO
      obtain ⟨cs, el, fr, hb, hnf, hcs, hle, hrow, hel, hS⟩ := hO
      obtain ⟨vs, h1, h2⟩ := RowV.flat hP (RowV.take m hrow)
      have h1 := RepFs.back hP he h1
      rw [List.length_take, Nat.min_eq_left hm] at h1
      have hs := RepFs.size hP _ _ _ h1
      rw [sumCells_replicate] at hs
      exact ⟨vs, rfl, mk hs (fun j u hu => by rw [Addr.add_lit]; exact h2 j u hu), h1⟩
    · exact absurd h2 (by simp)
  case s l =>
    split at h
    · rename_i hd
      cases h
      have hu := ds_some hd (by simp)
      have hu : und Γ.P e0 = some (.int .u8) := by rw [he]; rw [u1] at hu; exact hu
      simp only [RepA] at hx
      obtain ⟨s, rfl, rfl⟩ := hx
      have hc := cells_int hP hu
      have hlen : (bytesD s.data.toList).length = s.size := by rw [size_len]; simp [bytesD]
      have he1 : (s.extract 0 m).data.toList = s.data.toList.take m := by rw [extract_list]; simp
      have hb := bytesD_fs (w := w) (S := S) hu (s.extract 0 m).data.toList
      rw [he1] at hb
      have hbt : (bytesD s.data.toList).take m = bytesD (s.data.toList.take m) := by simp [bytesD]
      refine ⟨(s.data.toList.take m).map fun b => Value.int .u8 b.toNat, by rw [hlen]; rfl, ?_, ?_⟩
      · rw [← he1]
        simp [Builtin.firstCells]
        apply Array.ext'
        simp
      · rw [hbt]
        rw [show (bytesD (s.data.toList.take m)).length = m by rw [← hbt, List.length_take, Nat.min_eq_left hm]] at hb
        exact hb
    · exact absurd h (by simp)
  all_goals exact absurd h (by simp)
theorem take_min {α : Type} (ys : List α) (n : Nat) : ys.take n = ys.take (Nat.min ys.length n) := by
  rw [show Nat.min ys.length n = min n ys.length by rw [Nat.min_comm], ← List.take_take, List.take_length]
theorem putL_nil {α : Type} (xs : List α) (lo : Nat) : putL xs lo [] = xs := by
  unfold putL
  simp
theorem copy_run {t tx ty e0 : TypeId} {d : TypeDesc} (hs : und Γ.P t = some (.slice e0)) (he : und Γ.P e0 = some d) {a : Addr} {n cap k : Nat} {vx : Value} {news : List Value} (hl : (Builtin.lenOf vx).run Γ.P w = .ok k w)
    (hf : (Builtin.firstCells (Γ.P.cellsOf e0) (Nat.min k n) vx).run Γ.P w = .ok news.toArray w) (hst : (storeCells a news).run Γ.P w = .ok () w') :
    (Builtin.copy_ #[t, tx] ty #[.slice (some a) n cap, vx]).run Γ.P w = .ok (.int .i64 (Nat.min k n : Nat)) w' := by
  simp [Builtin.copy_, run_underlying (und_lt hs).2, hl, sizeOf_run he, hf, hst, goInt]
theorem copy_ok (hP : tabOk Γ.P = true) (hM : MemOK Γ w0 S0 X w S σ ob) {t tx ty : TypeId} {d x : AV} {vd vx : Value} {K : AV → Objs → Option R} {r : R} (hd : RepA Γ.P w S σ ob d vd) (hx : RepA Γ.P w S σ ob x vx)
    (h : opCopy Γ.P t d x ob K = some r) : Out Γ w0 S0 X w S σ ob K r (Builtin.copy_ #[t, tx] ty #[vd, vx]) := by
  unfold opCopy at h
  split at h
  · rename_i e0 ht
    have hs := ds_some ht (by simp)
    obtain ⟨de, he⟩ := elem_slice hP hs
    obtain ⟨u1, u2, _, u4⟩ := underId_spec hP he
    split at h
    · rename_i ys hys
      cases d <;> try (simp only at h; exact absurd h (by simp))
      rename_i e j lo n
      simp only at h
      obtain ⟨hb, h9⟩ := cond_some h
      clear h
      obtain rfl := beq_id hb
      simp only [RepA] at hd
      obtain ⟨hj, b, off, cap, rfl, g1, g2⟩ := hd
      have hkn : Nat.min ys.length n ≤ ys.length := Nat.min_le_left _ _
      have hkn' : Nat.min ys.length n ≤ n := Nat.min_le_right _ _
      obtain ⟨news, hlen, hfc, hfs⟩ := pre_ok hP hM he hys hx (Nat.min ys.length n) hkn
      have hnl := RepFs.size hP _ _ _ hfs
      rw [sumCells_replicate] at hnl
      have hone := RepFs.one _ _ _ hfs
      have htk := take_min ys n
      split at h9
      · rename_i tb u xs hob
        obtain ⟨rfl, m, e', q1, q2, q3, q4⟩ := g1 _ _ hob
        have hO := hM.objs j _ hob
        simp only [ObjAt] at hO
        obtain ⟨vs, el, fr, hbl, hnf, hel, hlv, hbox, hone', hS⟩ := hO
        obtain ⟨hfit, v, hv, hrep⟩ := hbox
        simp only [RepA] at hrep
        obtain ⟨cs, rfl, hrt, _⟩ := hrep
        have hcs : cs = vs := by simpa [Value.cells] using hv
        subst hcs
        have hu' : u = underId Γ.P tb := by
          simp only [fits, isTy, ds, q1, Option.getD_some] at hfit
          exact beq_id hfit
        subst hu'
        rw [hel.1] at hrt
        simp only [RepT] at hrt
        have hfs2 : xs.length = m ∧ RepFs Γ.P w S xs (List.replicate m e') cs := by
          rcases hrt with ⟨flds, q, _⟩ | ⟨m', e2, q, p1, p2⟩
          · rw [q1] at q; simp at q
          · rw [q1] at q; cases q; exact ⟨p1, p2⟩
        obtain ⟨p1, p2⟩ := hfs2
        obtain ⟨de', he'⟩ := elem_array hP q1
        have hce : Γ.P.cellsOf e' = Γ.P.cellsOf e0 := by rw [← (underId_spec hP he').2.1, q2, u2]
        have hfe := hfs.to hP ⟨_, he'⟩ q2.symm
        rcases Nat.eq_zero_or_pos (Nat.min ys.length n) with h0 | h0
        · rw [h0] at hnl hfc
          have hn0 : news = [] := List.eq_nil_of_length_eq_zero (by rw [hnl]; simp)
          subst hn0
          rw [htk, h0, List.take_zero, putL_nil] at h9
          have hset : ob.set j (some (.box tb (.d (underId Γ.P tb) (.agg xs)))) = ob := by
            apply List.ext_getElem?
            intro k
            rw [List.getElem?_set]
            by_cases hk : j = k
            · subst hk; rw [if_pos rfl, if_pos hj, hob]
            · rw [if_neg hk]
          rw [hset] at h9
          refine ⟨_, _, h9, .int .i64 (0 : Nat), w, S, σ, ?_, Trans.refl hM, by simp only [RepA]⟩
          have := copy_run (tx := tx) (ty := ty) (a := ⟨(σ j).1, off, none⟩) (n := n) (cap := cap) (news := []) (w' := w) hs he hlen (by rw [h0]; exact hfc) (by simp [storeCells])
          rw [h0] at this
          exact this
        · have hoff := q3 (by omega)
          subst hoff
          obtain ⟨A, B, rfl, hA, a1, a2⟩ := RepFs.cut hP lo p2 (by omega)
          obtain ⟨V, B', rfl, hV, b1, b2⟩ := RepFs.cut hP (Nat.min ys.length n) a2 (by rw [List.length_drop]; omega)
          rw [sumCells_take_replicate _ _ _ (by omega)] at hA
          rw [List.drop_replicate, sumCells_take_replicate _ _ _ (by omega)] at hV
          have hnew : RepFs Γ.P w S (putL xs lo (ys.take (Nat.min ys.length n))) (List.replicate m e') (A ++ (news ++ B')) := by
            unfold putL
            rw [List.append_assoc]
            have e1 : List.replicate m e' = (List.replicate m e').take lo ++ (List.replicate (Nat.min ys.length n) e' ++ ((List.replicate m e').drop lo).drop (Nat.min ys.length n)) := by
              rw [List.take_replicate, List.drop_drop, List.drop_replicate, List.replicate_append_replicate, List.replicate_append_replicate]
              congr 1; omega
            rw [e1]
            refine RepFs.app a1 (RepFs.app hfe ?_)
            rw [List.length_take, Nat.min_eq_left hkn, ← List.drop_drop]
            exact b2
          have hVn : V.length = news.length := by rw [hV, hnl, hce]
          rw [htk] at h9
          have hheap := setCells_heap news (lo * Γ.P.cellsOf e') w (A ++ (V ++ B')) el fr hbl (by simp [hA]; omega)
          rw [← List.append_assoc, putCs_mid hA hVn] at hheap
          have hk : Keeps w S (w.setCells (σ j).1 (lo * Γ.P.cellsOf e') news) S := fun y hy => ⟨cell_of_heap (setCells_heap_ne (hS y hy) _ _ _), hy⟩
          refine ⟨_, _, h9, .int .i64 (Nat.min ys.length n : Nat), w.setCells (σ j).1 (lo * Γ.P.cellsOf e') news, S, σ, copy_run hs he hlen hfc (storeCells_go hone hbl hnf (by simp [hA]; omega)), ?_, by simp only [RepA]⟩
          refine MemOK.turn hM hob (o' := .box tb (.d (underId Γ.P tb) (.agg (putL xs lo (ys.take (Nat.min ys.length n)))))) (by simp [alike]) (fun b hb => setCells_heap_ne hb _ _ _) (setCells_size _ _ _) hk (fun y hy => .inl hy) ?_ (setCells_env _ _ _)
          simp only [ObjAt]
          have hlx : (putL xs lo (ys.take (Nat.min ys.length n))).length = m := by
            unfold putL
            simp only [List.length_append, List.length_take, List.length_drop]
            have := Nat.min_eq_left hkn
            simp only [this]
            omega
          refine ⟨_, el, fr, hheap, ?_, hel, by simp at hlv ⊢; omega, ⟨by have h7 := hfit; simp only [fits, isTy, ds, q1, Option.getD_some] at h7 ⊢; exact h7, .agg (A ++ (news ++ B')).toArray, by simp [Value.cells], ?_⟩, ?_, hS⟩
          · intro o ho; apply hnf; simp at ho ⊢; omega
          · simp only [RepA]
            refine ⟨_, rfl, RepT.keep hk _ _ _ ?_, _, rfl⟩
            rw [hel.1]
            simp only [RepT]
            exact .inr ⟨m, e', q1, hlx, hnew⟩
          · intro v hv
            exact RepFs.one _ _ _ hnew v (by simpa [List.append_assoc] using hv)
      · rename_i e1 xs hob
        obtain ⟨rfl, rfl, q3, q4⟩ := g2 _ _ _ hob
        have hO := hM.objs j _ hob
        simp only [ObjAt] at hO
        obtain ⟨cs, el, fr, hb, hnf, hcs, hle, hrow, hel, hS⟩ := hO
        have hnS : ∀ z : Addr, S z → z.block ≠ (σ j).1 := fun z hz hzb => by have := (hS z hz hzb).1; simp at this
        have hue : und Γ.P (underId Γ.P e0) = some de := u1
        rcases Nat.eq_zero_or_pos (Nat.min ys.length n) with h0 | h0
        · rw [h0] at hnl hfc
          have hn0 : news = [] := List.eq_nil_of_length_eq_zero (by rw [hnl]; simp)
          subst hn0
          rw [htk, h0, List.take_zero, putL_nil] at h9
          have hset : ob.set j (some (.arr (underId Γ.P e0) xs false)) = ob := by
            apply List.ext_getElem?
            intro k
            rw [List.getElem?_set]
            by_cases hk : j = k
            · subst hk; rw [if_pos rfl, if_pos hj, hob]
            · rw [if_neg hk]
          rw [hset] at h9
          refine ⟨_, _, h9, .int .i64 (0 : Nat), w, S, σ, ?_, Trans.refl hM, by simp only [RepA]⟩
          have := copy_run (tx := tx) (ty := ty) (a := ⟨(σ j).1, off, none⟩) (n := n) (cap := cap) (news := []) (w' := w) hs he hlen (by rw [h0]; exact hfc) (by simp [storeCells])
          rw [h0] at this
          exact this
        · have hoff := q3 (by omega)
          subst hoff
          rw [u2] at hcs hel ⊢
          obtain ⟨vs, f1, f2⟩ := RowV.flat hP hrow
          have f1 := RepFs.back hP he f1
          have hvl := RepFs.size hP _ _ _ f1
          rw [sumCells_replicate] at hvl
          obtain ⟨A, B, rfl, hA, a1, a2⟩ := RepFs.cut hP lo f1 (by omega)
          obtain ⟨V, B', rfl, hV, b1, b2⟩ := RepFs.cut hP (Nat.min ys.length n) a2 (by rw [List.length_drop]; omega)
          rw [sumCells_take_replicate _ _ _ (by omega)] at hA
          rw [List.drop_replicate, sumCells_take_replicate _ _ _ (by omega)] at hV
          have hVn : V.length = news.length := by rw [hV, hnl]
          have hnew : RepFs Γ.P w S (putL xs lo (ys.take (Nat.min ys.length n))) (List.replicate xs.length e0) (A ++ (news ++ B')) := by
            unfold putL
            rw [List.append_assoc]
            have e1 : List.replicate xs.length e0 = (List.replicate xs.length e0).take lo ++ (List.replicate (Nat.min ys.length n) e0 ++ ((List.replicate xs.length e0).drop lo).drop (Nat.min ys.length n)) := by
              rw [List.take_replicate, List.drop_drop, List.drop_replicate, List.replicate_append_replicate, List.replicate_append_replicate]
              congr 1; omega
            rw [e1]
            refine RepFs.app a1 (RepFs.app hfs ?_)
            rw [List.length_take, Nat.min_eq_left hkn, ← List.drop_drop]
            exact b2
          have hsz : (A ++ (V ++ B')).length ≤ cs.size := by
            rw [hvl, hcs]; exact Nat.mul_le_mul_right _ hle
          simp only [List.length_append] at hsz
          rw [htk] at h9
          have hb' : w.heap[(σ j).1]? = some (.cells cs.toList.toArray el fr) := by simpa using hb
          have hroom : lo * Γ.P.cellsOf e0 + news.length ≤ cs.toList.length := by simp only [Array.length_toList]; omega
          have hheap := setCells_heap news (lo * Γ.P.cellsOf e0) w cs.toList el fr hb' hroom
          have hk : Keeps w S (w.setCells (σ j).1 (lo * Γ.P.cellsOf e0) news) S := fun y hy => ⟨cell_of_heap (setCells_heap_ne (hnS y hy) _ _ _), hy⟩
          have hps : (putCs cs.toList (lo * Γ.P.cellsOf e0) news).length = cs.size := by
            unfold putCs; simp only [List.length_append, List.length_take, List.length_drop, Array.length_toList] at hroom ⊢; omega
          have hlx : (putL xs lo (ys.take (Nat.min ys.length n))).length = xs.length := by
            unfold putL
            simp only [List.length_append, List.length_take, List.length_drop]
            have := Nat.min_eq_left hkn
            simp only [this]
            omega
          refine ⟨_, _, h9, .int .i64 (Nat.min ys.length n : Nat), w.setCells (σ j).1 (lo * Γ.P.cellsOf e0) news, S, σ, copy_run hs he hlen hfc (storeCells_go hone hb' (by simpa using hnf) hroom), ?_, by simp only [RepA]⟩
          refine MemOK.turn hM hob (o' := .arr (underId Γ.P e0) (putL xs lo (ys.take (Nat.min ys.length n))) false) (by simp [alike, hlx]) (fun b hb => setCells_heap_ne hb _ _ _) (setCells_size _ _ _) hk (fun y hy => .inl hy) ?_ (setCells_env _ _ _)
          simp only [ObjAt]
          refine ⟨_, el, fr, hheap, ?_, by rw [List.size_toArray, hps, u2]; exact hcs, by rw [hlx]; exact hle, ?_, ⟨hel.1, hel.2.1, hel.2.2.trans u2.symm⟩, fun z hz hzb => absurd hzb (hnS z hz)⟩
          · intro o' ho'; apply hnf; simpa [hps] using ho'
          · refine RowV.under hP he (RowV.ofFs hP (RepFs.keep hk _ _ _ hnew) ?_)
            intro q v hq
            simp only [World.cell?, hheap, Option.isSome_none, Bool.false_eq_true, if_false, Nat.zero_add, List.getElem?_toArray]
            rw [putCs_get hroom]
            have old : ∀ q', (A ++ (V ++ B'))[q']? = some v → cs.toList[q']? = some v := fun q' hq' => by
              have := f2 q' v hq'
              rw [Array.getElem?_toList]
              simpa [World.cell?, hb] using this
            split
            · refine old q ?_
              rw [List.getElem?_append_left (by omega)] at hq ⊢
              exact hq
            · split
              · rw [List.getElem?_append_right (by omega), List.getElem?_append_left (by omega), hA] at hq
                exact hq
              · refine old q ?_
                rw [List.getElem?_append_right (by omega), List.getElem?_append_right (by omega)] at hq ⊢
                rw [hVn]; exact hq
      · exact absurd h9 (by simp)
    · exact absurd h (by simp)
  · exact absurd h (by simp)
end
end Go.Proofs.Ytbdekjlnnbjicaa.V

/- Operations. Part ten: one operation, whatever it is. -/
namespace Go.Proofs.Ytbdekjlnnbjicaa.V
open Go
set_option linter.unusedVariables false
set_option linter.unusedSimpArgs false

section
variable {Γ : Ctx} {w0 : World} {S0 : Addr → Prop} {X : XB} {w w' : World} {S S' : Addr → Prop} {σ σ' : Loc} {ob ob' : Objs} {R : Type}

def noLoc : Loc := fun _ => (0, 0)
/-- what a call leaves: what was there is there; new blocks, of which some are data -/
structure Left (Γ : Ctx) (w : World) (S : Addr → Prop) (w' : World) (S' : Addr → Prop) : Prop where
  same : ∀ b, b < w.heap.size → w'.heap[b]? = w.heap[b]?
  grow : w.heap.size ≤ w'.heap.size
  more : ∀ a, S a → S' a
  new : ∀ a, S' a → S a ∨ (w.heap.size ≤ a.block ∧ a.block < w'.heap.size)
  env : w'.os = w.os ∧ w'.output = w.output
/-- a function, called with data, comes to this -/
def Ret (Γ : Ctx) (g : FuncId) (args : List AV) (r : AV) : Prop :=
  ∀ (w : World) (S : Addr → Prop) (vals : List Value), (∀ a, S a → a.block < w.heap.size) → GlobOK Γ w S → RepAs Γ.P w S noLoc [] args vals →
    UponOK Γ.P (fun v w' => ∃ S', Left Γ w S w' S' ∧ RepA Γ.P w' S' noLoc [] r v) ((callFunc g vals.toArray).run Γ.P w)
/-- a function, called with values and objects, comes to this -/
def RetX (Γ : Ctx) (g : FuncId) (args : List AV) (obs : Objs) (r : AV) (obs' : Objs) : Prop :=
  ∀ (w : World) (S : Addr → Prop) (σ : Loc) (X : XB) (vals : List Value), X.roots.length = rootsOf Γ.roots g → MemOK Γ w S X w S σ obs → RepAs Γ.P w S σ obs args vals →
    UponOK Γ.P (fun v w' => ∃ S' σ', MemOK Γ w S X w' S' σ' obs' ∧ Keeps w S w' S' ∧ RepA Γ.P w' S' σ' obs' r v) ((callFunc g vals.toArray).run Γ.P w)
/-- what the handle says of calls is so -/
def CallsOK (Γ : Ctx) (call : Handle) : Prop := ∀ g args obs r obs', call g args obs = some (true, r, obs') → RetX Γ g args obs r obs'

theorem nil_stays (σ σ' : Loc) : Stays σ [] σ' [] := ⟨Nat.le_refl _, fun j hj => by simp at hj⟩
theorem RepAs.keep' {P : Program} (k : Keeps w S w' S') (st : Stays σ ob σ' ob') : ∀ {l : List AV} {vs : List Value}, RepAs P w S σ ob l vs → RepAs P w' S' σ' ob' l vs
  | [], vs, h => by simpa only [RepAs] using h
  | a :: r, vs, h => by
    simp only [RepAs] at h ⊢
    obtain ⟨v, vs', rfl, h1, h2⟩ := h
    exact ⟨v, vs', rfl, RepA.keep k st a v h1, RepAs.keep' k st h2⟩
theorem Ret.x {g : FuncId} {args : List AV} {r : AV} (h : Ret Γ g args r) : RetX Γ g args [] r [] := by
  intro w S σ X vals _ hM ha
  refine (h w S vals hM.sin hM.glob (ha.keep' (Keeps.refl w S) (nil_stays σ noLoc))).mono ?_
  rintro v w' ⟨S', hl, hr⟩
  have t := hM.more hl.same hl.grow hl.more hl.new hl.env
  exact ⟨S', σ, t.1, t.3, RepA.keep (Keeps.refl w' S') (nil_stays noLoc σ) r v hr⟩
theorem mem_nil (hS : ∀ a, S a → a.block < w.heap.size) (hG : GlobOK Γ w S) : MemOK Γ w S ⟨[], fun _ => False, []⟩ w S noLoc [] := by
  refine { objs := ?_, apart := ?_, own := ?_, old := fun _ _ _ => rfl, grow := Nat.le_refl _, s0 := fun _ h => h, snew := fun _ h => .inl h, sin := hS, glob := hG, env := ⟨rfl, rfl⟩, kept := Keeps.refl w S, root := ?_ }
  · intro j o h; simp at h
  · intro j j' o o' h; simp at h
  · intro j o h; simp at h
  · intro k p h; simp at h
theorem RetX.ret {g : FuncId} {args : List AV} {r : AV} (h : RetX Γ g args [] r []) (h0 : rootsOf Γ.roots g = 0) : Ret Γ g args r := by
  intro w S vals hS hG ha
  refine (h w S noLoc ⟨[], fun _ => False, []⟩ vals (by rw [h0]; rfl) (mem_nil hS hG) ha).mono ?_
  rintro v w' ⟨S', σ', hM, hk, hr⟩
  refine ⟨S', ⟨fun b hb => hM.old b hb (fun h => h), hM.grow, hM.s0, fun a ha => ?_, hM.env⟩, RepA.keep (Keeps.refl w' S') (nil_stays σ' noLoc) r v hr⟩
  rcases hM.snew a ha with h | h | h
  · exact .inl h
  · exact h.elim
  · exact .inr ⟨h, hM.sin a ha⟩

theorem openA_ok {P : Program} {t : TypeId} {a : AV} {K : AV → Option R} {r : R} (h : openA P t a K = some r) :
    ∃ a', K a' = some r ∧ ∀ {w : World} {S : Addr → Prop} {σ : Loc} {ob : Objs} {v : Value}, RepA P w S σ ob a v → RepA P w S σ ob a' v := by
  unfold openA at h
  split at h
  · cases a <;> simp only [aInt] at h
    case i k n =>
      obtain ⟨h1, h2⟩ := cond_some h
      obtain rfl := kEq_iff.1 h1
      exact ⟨_, h2, fun hr => by simpa only [RepA] using hr⟩
    all_goals exact absurd h (by simp)
  · cases a <;> simp only [aBool] at h
    case b x => exact ⟨_, h, fun hr => by simpa only [RepA] using hr⟩
    all_goals exact absurd h (by simp)
  · cases a <;> simp only [aStr] at h
    case s x => exact ⟨_, h, fun hr => by simpa only [RepA] using hr⟩
    all_goals exact absurd h (by simp)
  · cases a <;> simp only [aRow] at h
    case snil => exact ⟨_, h, fun hr => by
      simp only [RepA] at hr ⊢
      exact ⟨none, 0, hr, ⟨rfl, rfl, rfl⟩, by simp⟩⟩
    case sl e c xs =>
      obtain ⟨h1, h2⟩ := cond_some h
      obtain rfl := beq_id h1
      exact ⟨_, h2, fun hr => by simpa only [RepA] using hr⟩
    case ref e j =>
      obtain ⟨h1, h2⟩ := cond_some h
      obtain rfl := beq_id h1
      exact ⟨_, h2, fun hr => hr⟩
    all_goals exact absurd h (by simp)
  · cases a <;> simp only [aD] at h
    case d u x =>
      obtain ⟨h1, h2⟩ := cond_some h
      obtain rfl := beq_id h1
      exact ⟨_, openD_id _ _ _ _ _ h2, fun hr => by simpa only [RepA] using hr⟩
    all_goals exact absurd h (by simp)
  · cases a <;> simp only [aD] at h
    case d u x =>
      obtain ⟨h1, h2⟩ := cond_some h
      obtain rfl := beq_id h1
      obtain ⟨ys, rfl, h3⟩ := dAgg_some h2
      exact ⟨_, h3, fun hr => by simpa only [RepA] using hr⟩
    all_goals exact absurd h (by simp)
  · cases a <;> simp only [aPtr] at h
    case pnil => exact ⟨_, h, fun hr => hr⟩
    case ptr j p u =>
      obtain ⟨_, h2⟩ := cond_some h
      exact ⟨_, h2, fun hr => hr⟩
    all_goals exact absurd h (by simp)
  · cases a <;> simp only [aUnsafe] at h
    case ptr j p u => exact ⟨_, h, fun hr => hr⟩
    all_goals exact absurd h (by simp)
  · cases a <;> simp only [aNone] at h
    case undef => exact ⟨_, h, fun hr => hr⟩
    case err x => exact ⟨_, h, fun hr => hr⟩
    case hp k t j p u => exact ⟨_, h, fun hr => hr⟩
    all_goals exact absurd h (by simp)
  · exact absurd h (by simp)
theorem openAs_ok {P : Program} : ∀ {ts : List TypeId} {l : List AV} {K : List AV → Option R} {r : R}, openAs P ts l K = some r →
    ∃ l', K l' = some r ∧ ∀ {w : World} {S : Addr → Prop} {σ : Loc} {ob : Objs} {vs : List Value}, RepAs P w S σ ob l vs → RepAs P w S σ ob l' vs
  | [], l, K, r, h => by
    cases l with
    | nil => exact ⟨[], h, fun hr => by simpa only [RepAs] using hr⟩
    | cons _ _ => simp [openAs, lNil] at h
  | t :: ts, l, K, r, h => by
    cases l with
    | nil => simp [openAs, lCons] at h
    | cons a q =>
      simp only [openAs, lCons] at h
      obtain ⟨a', h1, h2⟩ := openA_ok h
      obtain ⟨q', h3, h4⟩ := openAs_ok h1
      refine ⟨_, h3, fun hr => ?_⟩
      simp only [RepAs] at hr ⊢
      obtain ⟨v, vs', rfl, g1, g2⟩ := hr
      exact ⟨v, vs', rfl, h2 g1, h4 g2⟩
theorem openR_ok {P : Program} {t : TypeId} {a : AV} {K : AV → Option R} {r : R} (h : openR P t a K = some r) :
    ∃ a', K a' = some r ∧ ∀ {w : World} {S : Addr → Prop} {σ : Loc} {ob : Objs} {v : Value}, RepA P w S σ ob a v → RepA P w S σ ob a' v := by
  unfold openR at h
  split at h
  · cases a <;> simp only [aTuple] at h
    case tuple l =>
      obtain ⟨l', h1, h2⟩ := openAs_ok h
      refine ⟨_, h1, fun hr => ?_⟩
      simp only [RepA] at hr ⊢
      obtain ⟨vs, rfl, hr⟩ := hr
      exact ⟨vs, rfl, h2 hr⟩
    all_goals exact absurd h (by simp)
  · exact openA_ok h

theorem out_good {K : AV → Objs → Option R} {r : R} {s : Sem Value} (h : Out Γ w0 S0 X w S σ ob K r s) :
    ∃ av ob', K av ob' = some r ∧ OpGood Γ w0 S0 X w S σ ob av ob' (do pure (.value (← s))) := by
  obtain ⟨av, ob', hK, cv, w', S', σ', hr, ht, hv⟩ := h
  exact ⟨av, ob', hK, good_val (run_v hr) ht hv⟩
theorem same_good (hM : MemOK Γ w0 S0 X w S σ ob) {K : AV → Option R} {r : R} {s : Sem Value} (h : ∃ av, K av = some r ∧ ∃ cv, RepA Γ.P w S σ ob av cv ∧ s.run Γ.P w = .ok cv w) {K' : AV → Objs → Option R} (hk : ∀ a, K' a ob = K a) :
    ∃ av ob', K' av ob' = some r ∧ OpGood Γ w0 S0 X w S σ ob av ob' (do pure (.value (← s))) := by
  obtain ⟨av, hK, cv, hv, hr⟩ := h
  exact ⟨av, ob, by rw [hk]; exact hK, good_same hM (run_v hr) hv⟩

theorem RepAs.of_map {ρ : Operand → AV} {cρ : Operand → Value} (hρ : ∀ x, RepA Γ.P w S σ ob (ρ x) (cρ x)) : ∀ (l : List Operand), RepAs Γ.P w S σ ob (l.map ρ) (l.map cρ)
  | [] => by simp only [List.map_nil, RepAs]
  | x :: r => by simp only [List.map_cons, RepAs]; exact ⟨_, _, rfl, hρ x, RepAs.of_map hρ r⟩

theorem RepAs.app {P : Program} : ∀ {l m : List AV} {vs us : List Value}, RepAs P w S σ ob l vs → RepAs P w S σ ob m us → RepAs P w S σ ob (l ++ m) (vs ++ us)
  | [], m, vs, us, h1, h2 => by simp only [RepAs] at h1; subst h1; simpa using h2
  | a :: l, m, vs, us, h1, h2 => by
    simp only [RepAs, List.cons_append] at h1 ⊢
    obtain ⟨v, vs', rfl, g1, g2⟩ := h1
    exact ⟨v, vs' ++ us, rfl, g1, RepAs.app g2 h2⟩
theorem mem_nubN {j : Nat} : ∀ {l : List Nat}, j ∈ l → j ∈ nubN l
  | a :: r, h => by
    simp only [nubN, List.mem_cons, List.mem_filter]
    rcases List.mem_cons.1 h with e | e
    · exact .inl e
    · cases hb : Nat.beq a j with
      | true => exact .inl (beq_id hb).symm
      | false => exact .inr ⟨mem_nubN e, rfl⟩
theorem call1_ok (hP : tabOk Γ.P = true) (hM : MemOK Γ w0 S0 X w S σ ob) {call : Handle} (hc : CallsOK Γ call) {t : TypeId} {f : FuncId} {all : List AV} {vals : List Value} {K : AV → Objs → Option R} {r : R}
    (has : RepAs Γ.P w S σ ob all vals) (h : opCall1 Γ call t f all ob K = some r) :
    ∃ av ob', K av ob' = some r ∧ OpGood Γ w0 S0 X w S σ ob av ob' (callFunc f vals.toArray) := by
  unfold opCall1 at h
  cases hfz : frzC (memF f Γ.refs) all ob with
  | mk args ob1 =>
    rw [hfz] at h
    simp only at h
    generalize hrts : nubN (idsL args) = rts at h
    generalize hord : reach ob1 400 (idsOb ob1 rts) rts = ord at h
    obtain ⟨hcl, h⟩ := cond_some h
    simp only [Bool.and_eq_true] at hcl
    obtain ⟨hcl, hn⟩ := hcl
    have hn := beq_id hn
    obtain ⟨hnd, hin, hob⟩ := clsd_spec hcl
    obtain ⟨S1, t1, ha1⟩ := frzC_ok hP hM hfz has
    cases hcall : call f (renL (fun j => posN j ord) args) (ord.map fun j => renO (fun j => posN j ord) (ob1.getD j none)) with
    | none => rw [hcall] at h; exact absurd h (by simp)
    | some p =>
      obtain ⟨c, rv, obs⟩ := p
      rw [hcall] at h
      simp only at h
      obtain ⟨hsame, h9⟩ := cond_some h
      clear h
      simp only [Bool.and_eq_true] at hsame
      obtain ⟨hsame, rfl⟩ := hsame
      obtain ⟨av, hK, hopen⟩ := openR_ok h9
      have hpre : ∃ r, ord = rts ++ r := by rw [← hord]; exact reach_pre 400 _ _
      obtain ⟨hsub, hmv⟩ := sub_ok t1.1 hnd hob hpre
      have hargs : RepAs Γ.P w S1 _ _ (renL (fun j => posN j ord) args) vals := RepAs.ren args vals (fun j hj => hmv j (hin j (by rw [← hrts]; exact mem_nubN hj))) ha1
      have hret := hc f _ _ _ _ hcall w S1 _ _ vals (by simp only [subX, List.length_map]; exact hn.symm) hsub hargs
      refine ⟨av, _, hK, ?_⟩
      unfold OpGood
      refine hret.mono fun v w' ⟨S', σ2, hM2, hk, hv⟩ => ?_
      obtain ⟨σ'', ht, hren⟩ := back_ok t1.1 hnd hpre hM2 hk hsame
      exact ⟨S', σ'', t1.trans ht, hopen (hren _ _ hv)⟩
theorem hp_ptr {k : Bool} {d j : Nat} {p : List Nat} {u : TypeId} {v : Value} (h : RepA Γ.P w S σ ob (.hp k d j p u) v) : ∃ a, v = hpV k d (.pointer (some a)) ∧ RepA Γ.P w S σ ob (.ptr j p u) (.pointer (some a)) := by
  simp only [RepA] at h ⊢
  obtain ⟨hl, b, off, hv, h⟩ := h
  exact ⟨_, hv, hl, b, off, rfl, h⟩
theorem call_ok (hP : tabOk Γ.P = true) (hM : MemOK Γ w0 S0 X w S σ ob) {call : Handle} (hc : CallsOK Γ call) {t : TypeId} {g : AV} {vg : Value} {as : List AV} {vals : List Value} {K : AV → Objs → Option R} {r : R}
    (hg : RepA Γ.P w S σ ob g vg) (has : RepAs Γ.P w S σ ob as vals) (h : opCall Γ call t g as ob K = some r) :
    ∃ av ob', K av ob' = some r ∧ OpGood Γ w0 S0 X w S σ ob av ob' (do let d ← Deferred.ofValue vg vals.toArray; invoke d.target d.args) := by
  unfold opCall at h
  split at h
  · rename_i f caps
    simp only [RepA] at hg
    obtain ⟨cs, rfl, hcs⟩ := hg
    obtain ⟨av, ob', hK, hg⟩ := call1_ok hP hM hc (RepAs.app has hcs) h
    refine ⟨av, ob', hK, ?_⟩
    unfold OpGood at hg ⊢
    have hrun : (do let d ← Deferred.ofValue (.func (.func f) #[] cs.toArray) vals.toArray; invoke d.target d.args : Sem Next).run Γ.P w = (callFunc f (vals ++ cs).toArray).run Γ.P w := by
      simp [Deferred.ofValue, invoke]
    rw [hrun]
    exact hg
  · rename_i f j p u
    obtain ⟨a, rfl, hp⟩ := hp_ptr hg
    obtain ⟨av, ob', hK, hg⟩ := call1_ok hP hM hc (vals := .pointer (some a) :: vals) (by simp only [RepAs]; exact ⟨_, _, rfl, hp, has⟩) h
    refine ⟨av, ob', hK, ?_⟩
    unfold OpGood at hg ⊢
    have hrun : (do let d ← Deferred.ofValue (hpV false f (.pointer (some a))) vals.toArray; invoke d.target d.args : Sem Next).run Γ.P w = (callFunc f (.pointer (some a) :: vals).toArray).run Γ.P w := by
      simp [hpV, Deferred.ofValue, invoke]
    rw [hrun]
    exact hg
  · exact absurd h (by simp)
theorem methG_mem {d : TypeId} {n : String} {g : FuncId} : ∀ {l : List (TypeId × String × FuncId)}, methG l d n = some g → (d, n, g) ∈ l
  | [], h => by cases h
  | (t, m, f) :: r, h => by
    simp only [methG] at h
    rcases cond_cases h with ⟨hc, h⟩ | ⟨_, h⟩
    · simp only [Bool.and_eq_true, decide_eq_true_eq] at hc
      obtain ⟨h1, h2⟩ := hc
      have h1 := beq_id h1
      have h3 := Option.some.inj h
      rw [← h1, ← h2, ← h3]
      exact List.mem_cons_self ..
    · exact List.mem_cons_of_mem _ (methG_mem h)
theorem invoke_ok (hP : tabOk Γ.P = true) (hM : MemOK Γ w0 S0 X w S σ ob) {call : Handle} (hc : CallsOK Γ call) {t : TypeId} {x : AV} {vx : Value} {name : String} {as : List AV} {vals : List Value} {K : AV → Objs → Option R} {r : R}
    (hx : RepA Γ.P w S σ ob x vx) (has : RepAs Γ.P w S σ ob as vals) (h : opInvoke Γ call t x name as ob K = some r) :
    ∃ av ob', K av ob' = some r ∧ OpGood Γ w0 S0 X w S σ ob av ob' (invoke (.fn (.method name) #[]) (#[vx] ++ vals.toArray)) := by
  unfold opInvoke at h
  split at h
  · rename_i d j p u
    split at h
    · rename_i g hg
      obtain ⟨a, rfl, hp⟩ := hp_ptr hx
      obtain ⟨av, ob', hK, hg2⟩ := call1_ok hP hM hc (vals := .pointer (some a) :: vals) (by simp only [RepAs]; exact ⟨_, _, rfl, hp, has⟩) h
      refine ⟨av, ob', hK, ?_⟩
      unfold OpGood at hg2 ⊢
      have hm := Γ.methsOk _ (methG_mem hg) w a
      have hrun : (invoke (.fn (.method name) #[]) (#[hpV true d (.pointer (some a))] ++ vals.toArray)).run Γ.P w = (callFunc g (.pointer (some a) :: vals).toArray).run Γ.P w := by
        simp only [hpV, invoke]
        simp [callMethod, hm]
      rw [hrun]
      exact hg2
    · exact absurd h (by simp)
  · exact absurd h (by simp)
theorem makeI_ok {t : TypeId} {x : AV} {vx : Value} {K : AV → Option R} {r : R} (hx : RepA Γ.P w S σ ob x vx) (h : opMakeI Γ.P t x K = some r) :
    ∃ av, K av = some r ∧ ∃ cv, RepA Γ.P w S σ ob av cv ∧ (Instr.makeInterface t vx).run Γ.P w = .ok cv w := by
  unfold opMakeI at h
  split at h
  · rename_i j p u e hd
    have hu := (und_lt (ds_some hd (by simp))).2
    refine ⟨_, h, .iface t vx, ?_, ?_⟩
    · simp only [RepA] at hx ⊢
      obtain ⟨hl, b, off, rfl, hx⟩ := hx
      exact ⟨hl, b, off, rfl, hx⟩
    · simp [Instr.makeInterface, run_underlying hu]
  · exact absurd h (by simp)

theorem builtin_ok (hP : tabOk Γ.P = true) (hZ : zeroOk Γ.P = true) (hM : MemOK Γ w0 S0 X w S σ ob) {b : Builtin} {ts : List TypeId} {as : List AV} {vals : List Value} {ty : TypeId} {cs : Array Bool} {K : AV → Objs → Option R} {r : R}
    (has : RepAs Γ.P w S σ ob as vals) (h : opBuiltin Γ.P b ts as ob K = some r) :
    ∃ av ob', K av ob' = some r ∧ OpGood Γ w0 S0 X w S σ ob av ob' (builtin b ts.toArray ty cs vals.toArray) := by
  cases b <;> try (simp only [opBuiltin] at h; exact absurd h (by simp))
  case len =>
    cases ts with
    | nil => simp [opBuiltin] at h
    | cons t ts =>
      cases as with
      | nil => simp [opBuiltin] at h
      | cons a as =>
        simp only [RepAs] at has
        obtain ⟨v, vs', rfl, h1, h2⟩ := has
        exact out_good (len_ok hM (ty := ty) h1 h)
  case append =>
    rcases ts with _ | ⟨t, _ | ⟨t', _ | ⟨t3, tr⟩⟩⟩ <;> rcases as with _ | ⟨s, _ | ⟨x, _ | ⟨y, yr⟩⟩⟩ <;> try (simp only [opBuiltin] at h; exact absurd h (by simp))
    simp only [RepAs] at has
    obtain ⟨v, _, rfl, h1, v', _, rfl, h2, rfl⟩ := has
    simp only [opBuiltin] at h
    split at h
    · rename_i e hd
      exact out_good (append_ok (ty := ty) hP hZ hM (.inl ⟨_, (und_lt (ds_some hd (by simp))).2⟩) h1 h2 h)
    · rename_i hd
      exact out_good (append_ok (ty := ty) hP hZ hM (.inr (und_lt (ds_some hd (by simp))).2) h1 h2 h)
    · exact absurd h (by simp)
  case copy =>
    rcases ts with _ | ⟨t, _ | ⟨t', _ | ⟨t3, tr⟩⟩⟩ <;> rcases as with _ | ⟨s, _ | ⟨x, _ | ⟨y, yr⟩⟩⟩ <;> try (simp only [opBuiltin] at h; exact absurd h (by simp))
    simp only [RepAs] at has
    obtain ⟨v, _, rfl, h1, v', _, rfl, h2, rfl⟩ := has
    simp only [opBuiltin] at h
    exact out_good (copy_ok (ty := ty) hP hM h1 h2 h)
  case min =>
    cases as with
    | nil => simp [opBuiltin] at h
    | cons a as =>
      simp only [RepAs] at has
      obtain ⟨v, vs', rfl, h1, h2⟩ := has
      cases a <;> try (simp only [opBuiltin] at h; exact absurd h (by simp))
      case i k x =>
        simp only [opBuiltin] at h
        split at h
        · rename_i y hy
          simp only [RepA] at h1; subst h1
          exact out_good (out_same hM h (s := Builtin.min_ ts.toArray ty (Value.int k x :: vs').toArray) (by simpa [Builtin.min_] using minL_run as vs' x y h2 hy) repI)
        · exact absurd h (by simp)
  case max =>
    cases as with
    | nil => simp [opBuiltin] at h
    | cons a as =>
      simp only [RepAs] at has
      obtain ⟨v, vs', rfl, h1, h2⟩ := has
      cases a <;> try (simp only [opBuiltin] at h; exact absurd h (by simp))
      case i k x =>
        simp only [opBuiltin] at h
        split at h
        · rename_i y hy
          simp only [RepA] at h1; subst h1
          exact out_good (out_same hM h (s := Builtin.max_ ts.toArray ty (Value.int k x :: vs').toArray) (by simpa [Builtin.max_] using maxL_run as vs' x y h2 hy) repI)
        · exact absurd h (by simp)
  case unsafeSliceData =>
    rcases as with _ | ⟨x, _ | ⟨y, yr⟩⟩ <;> try (simp only [opBuiltin] at h; exact absurd h (by simp))
    simp only [RepAs] at has
    obtain ⟨v, _, rfl, h1, rfl⟩ := has
    exact out_good (sliceData_ok hM h1 h)
  case unsafeString =>
    rcases ts with _ | ⟨t, _ | ⟨t', _ | ⟨t3, tr⟩⟩⟩ <;> rcases as with _ | ⟨s, _ | ⟨x, _ | ⟨y, yr⟩⟩⟩ <;> try (simp only [opBuiltin] at h; exact absurd h (by simp))
    cases x <;> try (simp only [opBuiltin] at h; exact absurd h (by simp))
    rename_i k n
    cases k <;> try (simp only [opBuiltin] at h; exact absurd h (by simp))
    simp only [RepAs, RepA] at has
    obtain ⟨v, _, rfl, h1, v', _, rfl, rfl, rfl⟩ := has
    exact out_good (uString_ok hP hM h1 h)
theorem frzV_ok (hP : tabOk Γ.P = true) (hM : MemOK Γ w0 S0 X w S σ ob) {t : TypeId} {a a' : AV} {ob' : Objs} {v : Value} (h : frzV Γ.P t a ob = (a', ob')) (ha : RepA Γ.P w S σ ob a v) :
    ∃ S', Trans Γ w0 S0 X w S σ ob w S' σ ob' ∧ RepA Γ.P w S' σ ob' a' v := by
  cases a
  case snil =>
    simp only [frzV, Prod.mk.injEq] at h
    obtain ⟨rfl, rfl⟩ := h
    simp only [RepA] at ha
    subst ha
    refine ⟨S, Trans.refl hM, ?_⟩
    simp only [RepA]
    exact ⟨none, 0, rfl, ⟨Nat.le_refl _, fun _ => rfl⟩, .inl trivial⟩
  all_goals (simp only [frzV] at h; exact frz_ok hP hM h ha)
/-! ### one operation -/
theorem optRep {ρ : Operand → AV} {cρ : Operand → Value} (hρ : ∀ x, RepA Γ.P w S σ ob (ρ x) (cρ x)) (o : Option Operand) : OptRep Γ w S σ ob (o.map ρ) (o.map cρ) := by
  cases o with
  | none => exact trivial
  | some x => exact hρ x
theorem parts_get {ρ : Operand → AV} {cρ : Operand → Value} (hρ : ∀ x, RepA Γ.P w S σ ob (ρ x) (cρ x)) (ps : Array (Nat × Operand)) :
    (ps.map fun (i, x) => (i, cρ x)).toList.length = (ps.toList.map fun p => (p.1, ρ p.2)).length ∧
    ∀ (k : Nat) (p : Nat × AV), (ps.toList.map fun p => (p.1, ρ p.2))[k]? = some p → ∃ v, (ps.map fun (i, x) => (i, cρ x)).toList[k]? = some (p.1, v) ∧ RepA Γ.P w S σ ob p.2 v := by
  refine ⟨by simp, fun k p hp => ?_⟩
  rw [List.getElem?_map] at hp
  obtain ⟨q, hq, rfl⟩ := Option.map_eq_some_iff.1 hp
  refine ⟨cρ q.2, ?_, hρ _⟩
  rw [Array.toList_map, List.getElem?_map, hq]
  rfl
theorem stepOp_ok (hP : tabOk Γ.P = true) (hZ : zeroOk Γ.P = true) (hM : MemOK Γ w0 S0 X w S σ ob) {call : Handle} (hc : CallsOK Γ call) {f : FuncId} {o : Oper} {ρ : Operand → AV} {cρ : Operand → Value}
    (hρ : ∀ x, RepA Γ.P w S σ ob (ρ x) (cρ x)) (hcn : cρ (.const .nilIface) = .nilIface) {K : AV → Objs → Option R} {r : R} (h : stepOp Γ call f o ρ ob K = some r) :
    ∃ av ob', K av ob' = some r ∧ OpGood Γ w0 S0 X w S σ ob av ob' (execOp cρ o) := by
  obtain ⟨dst, op, type, pos, after, guard⟩ := o
  cases op <;> simp only [stepOp] at h <;> (try exact absurd h (by simp)) <;> simp only [execOp]
  case move x => exact ⟨_, ob, h, good_same hM (by simp) (hρ x)⟩
  case assign x => exact ⟨_, ob, h, good_same hM (by simp) (hρ x)⟩
  case pick c a b =>
    split at h
    · rename_i x hx
      have := hρ c
      rw [hx] at this
      simp only [RepA] at this
      rcases cond_cases h with ⟨rfl, h⟩ | ⟨rfl, h⟩
      · exact ⟨_, ob, h, good_same hM (by simp [this, asBool]) (hρ a)⟩
      · exact ⟨_, ob, h, good_same hM (by simp [this, asBool]) (hρ b)⟩
    · exact absurd h (by simp)
  case alloc e =>
    obtain ⟨hf, h⟩ := cond_some h
    obtain ⟨w', σ', cv, hr, ht, hv⟩ := alloc_ok hP hZ hM hf
    exact ⟨_, _, h, good_val (run_v hr) ht hv⟩
  case box e x =>
    obtain ⟨hf, h⟩ := cond_some h
    obtain ⟨w', σ', cv, hr, ht, hv⟩ := box_ok hP hM hf (hρ x)
    exact ⟨_, _, h, good_val (run_v hr) ht hv⟩
  case build t ps =>
    obtain ⟨g1, g2⟩ := parts_get hρ ps
    exact same_good hM (build_ok hP hZ h g1 g2) (fun _ => rfl)
  case buildSlice t n ps =>
    obtain ⟨g1, g2⟩ := parts_get hρ ps
    exact out_good (buildSlice_ok hP hZ hM h g1 g2)
  case load t a =>
    obtain ⟨av, hK, cv, hv, hr⟩ := load_ok hP hM (hρ a) h
    exact ⟨av, ob, hK, good_same hM (run_v hr) hv⟩
  case store t a x =>
    cases hz : memF f Γ.frzs with
    | false =>
      rw [hz] at h
      obtain ⟨ob', hK, w', ht, hr⟩ := store_ok hP hM (hρ a) (hρ x) h
      exact ⟨.undef, ob', hK, good_skip (run_u hr) ht⟩
    | true =>
      rw [hz] at h
      simp only [opStoreZ] at h
      obtain ⟨S1, t1, hx1⟩ := frzV_ok hP hM (t := t) rfl (hρ x)
      obtain ⟨ob', hK, w', ht, hr⟩ := store_ok hP t1.ok (t1.rep _ _ (hρ a)) hx1 h
      exact ⟨.undef, ob', hK, good_skip (run_u hr) (t1.trans ht)⟩
  case nilCheck x =>
    split at h
    · rename_i j p u hx
      have hr := hρ x
      rw [hx] at hr
      have hr' := hr
      simp only [RepA] at hr
      obtain ⟨_, b, off, hv, _⟩ := hr
      rw [hv] at hr' ⊢
      exact ⟨_, ob, h, good_same hM (by simp) hr'⟩
    · rename_i u y hx
      have hr := hρ x
      rw [hx] at hr
      have hr' := hr
      simp only [RepA] at hr
      obtain ⟨b, o, vs, hv, _⟩ := hr
      rw [hv] at hr' ⊢
      exact ⟨_, ob, h, good_same hM (by simp) hr'⟩
    · exact absurd h (by simp)
  case binOp op t x y yt =>
    rcases cond_cases h with ⟨hc, h⟩ | ⟨_, h⟩
    · obtain ⟨av, hK, cv, hv, hr⟩ := errK_ok hc h (hρ x)
      exact ⟨av, ob, hK, good_same hM (run_v (by rw [show cρ y = .nilIface from (isNilC_eq hc) ▸ hcn]; exact hr x)) hv⟩
    rcases cond_cases h with ⟨_, h⟩ | ⟨_, h⟩
    · obtain ⟨av, hK, cv, hv, hr⟩ := ptrEq_ok h (hρ x) (hρ y)
      exact ⟨av, ob, hK, good_same hM (run_v (hr x y)) hv⟩
    · obtain ⟨av, hK, cv, hv, hr⟩ := opBin_ok hP h (hρ x) (hρ y)
      exact ⟨av, ob, hK, good_same hM (run_v (hr x y)) hv⟩
  case unOp op t x =>
    split at h
    · rename_i a ha
      obtain ⟨cv, hv, hr⟩ := opUn_ok ha (hρ x)
      exact ⟨_, ob, h, good_same hM (run_v hr) hv⟩
    · exact absurd h (by simp)
  case convert s d x =>
    rcases cond_cases h with ⟨_, h⟩ | ⟨_, h⟩
    · obtain ⟨av, hK, cv, hv, hr⟩ := ptrConv_ok hP hM (hρ x) h
      exact ⟨av, ob, hK, good_same hM (run_v hr) hv⟩
    · exact out_good (convert_ok hP hM (hρ x) h)
  case makeSlice t l c => exact out_good (makeSlice_ok hP hZ hM (hρ l) (hρ c) h)
  case slice t x lo hi mx =>
    by_cases hna : ∃ n e, ds Γ.P t = .array n e
    · obtain ⟨n, e, hd⟩ := hna
      obtain ⟨av, ob', hK, cv, w', S', σ', hr, ht, hv⟩ := sliceBox_ok hP hM (hρ x) (optRep hρ lo) (optRep hρ hi) (optRep hρ mx) hd h
      exact ⟨av, ob', hK, good_val (run_v hr) ht hv⟩
    · have hna : ∀ n e, ds Γ.P t ≠ .array n e := fun n e hd => hna ⟨n, e, hd⟩
      have hat : (Instr.sliceAt t (cρ x) (lo.map cρ) (hi.map cρ) (mx.map cρ)).run Γ.P w = (Instr.slice t (cρ x) (lo.map cρ) (hi.map cρ) (mx.map cρ)).run Γ.P w := by
        have hd : ∃ d, und Γ.P t = some d ∧ ∀ n e, d ≠ .array n e := by
          unfold opSlice at h
          split at h
          · rename_i hd _; exact ⟨_, ds_some hd (by simp), by simp⟩
          · rename_i hd _; exact ⟨_, ds_some hd (by simp), by simp⟩
          · rename_i hd _; exact ⟨_, ds_some hd (by simp), by simp⟩
          · rename_i hd _; exact ⟨_, ds_some hd (by simp), by simp⟩
          · rename_i hd _; exact absurd hd (hna _ _)
          · rename_i hd _; exact absurd hd (hna _ _)
          · exact absurd h (by simp)
        obtain ⟨d, hd, hna⟩ := hd
        cases d <;> first | exact absurd rfl (hna _ _) | simp [Instr.sliceAt, run_underlying (und_lt hd).2]
      obtain ⟨av, ob', hK, cv, w', S', σ', hr, ht, hv⟩ := slice_ok hP hM (hρ x) (optRep hρ lo) (optRep hρ hi) (optRep hρ mx) hna h
      exact ⟨av, ob', hK, good_val (run_v (hat.trans hr)) ht hv⟩
  case fieldAddr s x i => exact same_good hM (fieldAddr_ok hP (hρ x) h) (fun _ => rfl)
  case field t x i => exact same_good hM (field_ok hP (hρ x) h) (fun _ => rfl)
  case indexAddr t x ix => exact same_good hM (indexAddr_ok hP (hρ x) (hρ ix) h) (fun _ => rfl)
  case index t x ix => exact same_good hM (index_ok hP (hρ x) (hρ ix) h) (fun _ => rfl)
  case extract x i => exact same_good hM (extract_ok (hρ x) h) (fun _ => rfl)
  case makeFunc fn first caps =>
    split at h
    · rename_i g hf
      have hf : first = #[] := by simpa using hf
      subst hf
      refine ⟨_, ob, h, good_same hM (v := .func (.func g) #[] (caps.map cρ)) (by simp [Instr.makeFunc]) ?_⟩
      · simp only [RepA]
        exact ⟨caps.toList.map cρ, by congr 1; apply Array.ext'; simp, RepAs.of_map hρ _⟩
    · rename_i g x hf
      split at h
      · rename_i j p u hx hcap
        have hr := hρ x
        rw [hx] at hr
        have hf : first = #[x] := by apply Array.ext'; simpa using hf
        have hcap : caps = #[] := by
          apply Array.ext'
          simpa using hcap
        subst hf
        subst hcap
        refine ⟨_, ob, h, good_same hM (v := .func (.func g) #[cρ x] #[]) (by simp [Instr.makeFunc]) ?_⟩
        simp only [RepA] at hr ⊢
        obtain ⟨hl, b, off, e, hr⟩ := hr
        exact ⟨hl, b, off, by rw [e]; rfl, hr⟩
      · exact absurd h (by simp)
    · exact absurd h (by simp)
  case makeInterface t x => exact same_good hM (makeI_ok (hρ x) h) (fun _ => rfl)
  case call c =>
    split at h
    · rename_i b hb
      obtain ⟨cs, e⟩ : ∃ cs, (do let d ← resolve cρ c type; invoke d.target d.args : Sem Next).run Γ.P w = (builtin b c.argTypes.toList.toArray type cs (c.args.toList.map cρ).toArray).run Γ.P w := by
        have e2 : (c.args.toList.map cρ).toArray = c.args.map cρ := by apply Array.ext'; simp
        rw [e2]
        unfold resolve
        rw [hb]
        exact ⟨_, rfl⟩
      obtain ⟨av, ob', hK, hg⟩ := builtin_ok (vals := c.args.toList.map cρ) (ty := type) (cs := cs) hP hZ hM (RepAs.of_map hρ _) h
      refine ⟨av, ob', hK, ?_⟩
      unfold OpGood at hg ⊢
      rw [e]; exact hg
    · rename_i g hg
      obtain ⟨av, ob', hK, hgd⟩ := call_ok hP hM hc (vals := c.args.toList.map cρ) (hρ g) (RepAs.of_map hρ _) h
      refine ⟨av, ob', hK, ?_⟩
      have e2 : (c.args.toList.map cρ).toArray = c.args.map cρ := by apply Array.ext'; simp
      rw [e2] at hgd
      unfold resolve
      rw [hg]
      exact hgd
    · rename_i x name hg
      obtain ⟨av, ob', hK, hgd⟩ := invoke_ok hP hM hc (vals := c.args.toList.map cρ) (hρ x) (RepAs.of_map hρ _) h
      refine ⟨av, ob', hK, ?_⟩
      have e2 : (c.args.toList.map cρ).toArray = c.args.map cρ := by apply Array.ext'; simp
      rw [e2] at hgd
      unfold resolve
      rw [hg]
      exact hgd
end
end Go.Proofs.Ytbdekjlnnbjicaa.V

/- Regions: a list of operations. -/
namespace Go.Proofs.Ytbdekjlnnbjicaa.V
open Go
set_option linter.unusedVariables false
set_option linter.unusedSimpArgs false

section
variable {Γ : Ctx} {w0 : World} {S0 : Addr → Prop} {X : XB} {w w' : World} {S S' : Addr → Prop} {σ σ' : Loc} {ob ob' : Objs} {R : Type}

/-- temporaries and objects stand for what the frame and the memory hold -/
structure StOK (Γ : Ctx) (w0 : World) (S0 : Addr → Prop) (X : XB) (n : Nat) (st : St) (a : Act) (w : World) (S : Addr → Prop) (σ : Loc) : Prop where
  mem : MemOK Γ w0 S0 X w S σ st.ob
  tm : ∀ t, RepA Γ.P w S σ st.ob (get st.tm t) (a.tmps.getD t undef)
  size : n ≤ a.tmps.size
  defers : a.defers = X.dfs

/-- calls that are put off do not matter to the memory -/
theorem MemOK.dfs (h : MemOK Γ w0 S0 X w S σ ob) {d : List Deferred} : MemOK Γ w0 S0 ⟨X.roots, X.own, d⟩ w S σ ob :=
  { objs := h.objs, apart := h.apart, own := h.own, old := h.old, grow := h.grow, s0 := h.s0, snew := h.snew, sin := h.sin, glob := h.glob, env := h.env, kept := h.kept, root := h.root }
theorem MemOK.undfs {d : List Deferred} (h : MemOK Γ w0 S0 ⟨X.roots, X.own, d⟩ w S σ ob) : MemOK Γ w0 S0 X w S σ ob :=
  { objs := h.objs, apart := h.apart, own := h.own, old := h.old, grow := h.grow, s0 := h.s0, snew := h.snew, sin := h.sin, glob := h.glob, env := h.env, kept := h.kept, root := h.root }
theorem get_put (dst : Option Nat) (v : AV) (tm : Tm) (t : Nat) : get (put dst v tm) t = if dst = some t then v else get tm t := by
  cases dst with
  | none => simp [put]
  | some d =>
    simp only [put, get, Option.some.injEq]
    by_cases h : d = t
    · subst h; simp
    · rw [if_neg h]
      cases hb : Nat.beq d t with
      | true => exact absurd (beq_id hb) h
      | false => rfl
theorem getD_put (a : Act) (dst : Option Nat) (v : Value) (t : Nat) (hd : ∀ d, dst = some d → d < a.tmps.size) : (a.put dst v).tmps.getD t undef = if dst = some t then v else a.tmps.getD t undef := by
  cases dst with
  | none => simp [Act.put]
  | some d =>
    simp only [Act.put, Option.some.injEq]
    by_cases h : d = t
    · subst h
      have := hd d rfl
      simp [this]
    · rw [if_neg h]
      simp [Array.getElem?_setIfInBounds_ne h]
theorem StOK.put {n : Nat} {st : St} {a : Act} {av : AV} {ob' : Objs} {v : Value} {dst : Option Nat} (h : StOK Γ w0 S0 X n st a w S σ) (ht : Trans Γ w0 S0 X w S σ st.ob w' S' σ' ob') (hv : RepA Γ.P w' S' σ' ob' av v)
    (hd : ∀ d, dst = some d → d < n) : StOK Γ w0 S0 X n ⟨V.put dst av st.tm, ob'⟩ (a.put dst v) w' S' σ' := by
  refine ⟨ht.1, fun t => ?_, ?_, ?_⟩
  · simp only
    rw [get_put, getD_put a dst v t (fun d e => Nat.lt_of_lt_of_le (hd d e) h.size)]
    by_cases hc : dst = some t
    · rw [if_pos hc, if_pos hc]; exact hv
    · rw [if_neg hc, if_neg hc]; exact ht.2 _ _ (h.tm t)
  · cases dst <;> simp [Act.put, h.size]
  · cases dst <;> simp [Act.put, h.defers]
theorem ofConst_ok {P : Program} (v : Value) : RepA P w S σ ob (ofConst v) v := by
  unfold ofConst
  split <;> simp only [RepA]
  · exact ⟨_, rfl, rfl⟩
  · exact .inl ⟨trivial, trivial⟩
theorem evo_ok {n : Nat} {st : St} {a : Act} (h : StOK Γ w0 S0 X n st a w S σ) (x : Operand) : RepA Γ.P w S σ st.ob (evo Γ st.tm x) (a.eval x) := by
  cases x with
  | tmp t => exact h.tm t
  | const v => exact ofConst_ok v
  | global g =>
    simp only [evo, Act.eval]
    cases hg : Γ.G g with
    | none => simp only [RepA]
    | some p =>
      obtain ⟨t, x⟩ := p
      obtain ⟨vs, h1, h2⟩ := h.mem.glob.data g t x hg
      simp only [RepA]
      exact ⟨g, 0, vs, rfl, h1, h2.1⟩
  | func f =>
    simp only [evo, Act.eval, RepA]
    exact ⟨[], rfl, by simp only [RepAs]⟩
/-- one operation of a region, wanted -/
theorem oper_ok (hP : tabOk Γ.P = true) (hZ : zeroOk Γ.P = true) {call : Handle} (hc : CallsOK Γ call) {f : FuncId} {n : Nat} {st : St} {a : Act} {o : Oper} (h : StOK Γ w0 S0 X n st a w S σ)
    (hd : ∀ d, o.dst = some d → d < n) {K : AV → Objs → Option R} {r : R} (hs : stepOp Γ call f o (evo Γ st.tm) st.ob K = some r) {next : Act → World → Prop} {Q : Exit → Act → World → Prop}
    (hn : ∀ av ob' a' w' S' σ', K av ob' = some r → StOK Γ w0 S0 X n ⟨V.put o.dst av st.tm, ob'⟩ a' w' S' σ' → next a' w') : o.wp Γ.P a w next Q := by
  obtain ⟨av, ob', hK, hg⟩ := stepOp_ok hP hZ h.mem hc (evo_ok h) rfl hs
  unfold Oper.wp
  unfold OpGood at hg
  exact upon_of hg fun v w' ⟨S', σ', ht, hv⟩ => hn av ob' _ _ S' σ' hK (h.put ht hv hd)
theorem skip_rep {P : Program} : RepA P w S σ ob (.tuple []) undef := by
  simp only [RepA]; exact ⟨[], rfl, by simp only [RepAs]⟩
theorem yielded_skip {P : Program} {ops : Array Oper} {tmps : Array Value} {j d : Nat} (hd : (ops.toList[j]?).bind (·.dst) = some d) (h : RepA P w S σ ob (.tuple []) (tmps.getD d undef)) : yielded ops tmps j = none := by
  simp only [RepA, RepAs] at h
  obtain ⟨vs, h, rfl⟩ := h
  unfold yielded
  have : (ops[j]?).bind (·.dst) = some d := by simpa using hd
  rw [this]
  simp only [Option.bind_some]
  rw [Array.getD_eq_getD_getElem?] at h
  cases hq : tmps[d]? with
  | none => rfl
  | some v =>
    rw [hq] at h
    simp only [Option.getD_some] at h
    rw [h]
theorem guard_ok {n : Nat} {st : St} {a : Act} {ops : Array Oper} {o : Oper} (h : StOK Γ w0 S0 X n st a w S σ) {K : Bool → Tm → Option R} {r : R} (hs : guardK ops.toList o st.tm K = some r) :
    ∃ b tm, K b tm = some r ∧ Region.wanted o (yielded ops a.tmps) = b ∧ StOK Γ w0 S0 X n ⟨tm, st.ob⟩ a w S σ := by
  unfold guardK at hs
  split at hs
  · rename_i hg
    exact ⟨true, st.tm, hs, by simp [Region.wanted, hg], h⟩
  · rename_i j want hg
    split at hs
    · exact absurd hs (by simp)
    · rename_i d hd
      split at hs
      · rename_i x hx
        have htm := h.tm d
        rw [hx] at htm
        simp only [RepA] at htm
        have hdz : d < a.tmps.size := by
          rcases Nat.lt_or_ge d a.tmps.size with hlt | hge
          · exact hlt
          · rw [Array.getD_eq_getD_getElem?, Array.getElem?_eq_none hge] at htm; simp [undef] at htm
        have hy : yielded ops a.tmps j = some x := by
          unfold yielded
          have : (ops[j]?).bind (·.dst) = some d := by simpa using hd
          rw [this]
          simp only [Option.bind_some]
          rw [Array.getElem?_eq_getElem hdz]
          rw [Array.getD_eq_getD_getElem?, Array.getElem?_eq_getElem hdz] at htm
          simp only [Option.getD_some] at htm
          rw [htm]
        have hst : ∀ y, y = x → StOK Γ w0 S0 X n ⟨(d, .b y) :: st.tm, st.ob⟩ a w S σ := by
          rintro y rfl
          refine ⟨h.mem, fun t => ?_, h.size, h.defers⟩
          have := get_put (some d) (.b y) st.tm t
          simp only [V.put] at this
          simp only
          rw [this]
          by_cases hdt : some d = some t
          · rw [if_pos hdt]; cases hdt; simp only [RepA]; exact htm
          · rw [if_neg hdt]; exact h.tm t
        rcases cond_cases hs with ⟨rfl, hs⟩ | ⟨rfl, hs⟩
        · exact ⟨_, _, hs, by simp [Region.wanted, hg, hy], hst _ rfl⟩
        · exact ⟨_, _, hs, by simp [Region.wanted, hg, hy], hst _ rfl⟩
      · rename_i hx
        have htm := h.tm d
        rw [hx] at htm
        have hy : yielded ops a.tmps j = none := yielded_skip hd htm
        exact ⟨false, _, hs, by simp [Region.wanted, hg, hy], h⟩
      · exact absurd hs (by simp)
/-- the operations of a region, one after the other -/
theorem stepOps_ok (hP : tabOk Γ.P = true) (hZ : zeroOk Γ.P = true) {call : Handle} (hc : CallsOK Γ call) {f : FuncId} {n : Nat} {ops : Array Oper} {K : St → Option R} {r : R} {Q : Exit → Act → World → Prop}
    (hQ : ∀ st a w S σ, K st = some r → StOK Γ w0 S0 X n st a w S σ → Q .normal a w) (hd : ∀ o ∈ ops.toList, ∀ d, o.dst = some d → d < n) :
    ∀ (l : List Oper) (k : Nat), ops.toList.drop k = l → ∀ (st : St) (a : Act) (w : World) (S : Addr → Prop) (σ : Loc), StOK Γ w0 S0 X n st a w S σ → stepOps Γ call f ops.toList l st K = some r →
      wpOps Γ.P ops Q ((List.range ops.size).drop k) a w
  | [], k, hl, st, a, w, S, σ, h, hs => by
    have : ops.size ≤ k := by have := List.drop_eq_nil_iff.1 hl; simpa using this
    rw [List.drop_eq_nil_of_le (by simpa using this)]
    simp only [stepOps] at hs
    simp only [wpOps]
    exact hQ _ _ _ _ _ hs h
  | o :: l, k, hl, st, a, w, S, σ, h, hs => by
    have hk : ops.toList[k]? = some o := by
      have := congrArg (·[0]?) hl
      simpa using this
    have hkl := getL hk
    have hok : ops[k]? = some o := by simpa using hk
    have hl2 : ops.toList.drop (k + 1) = l := by
      rw [← List.drop_drop, hl]; rfl
    rw [List.drop_eq_getElem_cons (by simpa using hkl), List.getElem_range]
    have hdo : ∀ d, o.dst = some d → d < n := hd o (List.mem_of_getElem? hk)
    simp only [stepOps] at hs
    obtain ⟨b, tm, hs, hw, h'⟩ := guard_ok h hs
    simp only [wpOps, hok, hw]
    rcases cond_cases hs with ⟨rfl, hs2⟩ | ⟨rfl, hs2⟩
    · simp only [if_true]
      refine .inl (oper_ok hP hZ hc h' hdo hs2 fun av ob' a' w' S' σ' hK hst => ?_)
      exact stepOps_ok hP hZ hc hQ hd l (k + 1) hl2 _ a' w' S' σ' hst hK
    · simp only [Bool.false_eq_true, if_false]
      exact stepOps_ok hP hZ hc hQ hd l (k + 1) hl2 _ _ w S σ (h'.put (Trans.refl h'.mem) skip_rep hdo) hs2
end
end Go.Proofs.Ytbdekjlnnbjicaa.V

/- Labels: what is kept there stands for what was there. -/
namespace Go.Proofs.Ytbdekjlnnbjicaa.V
open Go
set_option linter.unusedVariables false
set_option linter.unusedSimpArgs false

section
variable {Γ : Ctx} {w0 : World} {S0 : Addr → Prop} {X : XB} {w w' : World} {S S' : Addr → Prop} {σ σ' : Loc} {ob ob' : Objs} {R : Type}
theorem clean_ok {P : Program} {a : AV} {v : Value} (h : RepA P w S σ ob a v) : RepA P w S σ ob (clean ob a) v := by
  unfold clean
  split <;> try exact h
  · split
    · exact h
    · simp only [RepA]
  · split
    · exact h
    · simp only [RepA]
  · split
    · exact h
    · simp only [RepA]
theorem get_map {live : List Nat} {F : Nat → AV} {t : Nat} : get (live.map fun t => (t, F t)) t = if t ∈ live then F t else .undef := by
  induction live with
  | nil => simp [get]
  | cons a r ih =>
    simp only [List.map_cons, get]
    cases hb : Nat.beq a t with
    | true => obtain rfl := beq_id hb; simp
    | false =>
      have hne : t ≠ a := fun e => by subst e; simp at hb
      simp only [cond_false, ih, List.mem_cons, hne, false_or]
theorem ids_mem {p : Nat × AV} {j : Nat} (hj : j ∈ idsA p.2) : ∀ {tm : Tm}, p ∈ tm → j ∈ idsL (tm.map (·.2))
  | [], hp => by cases hp
  | q :: r, hp => by
    simp only [List.map_cons, idsL, List.mem_append]
    rcases List.mem_cons.1 hp with e | e
    · subst e; exact .inl hj
    · exact .inr (ids_mem hj e)
theorem pre_get {m k : Nat} {r : List Nat} (h : k < m) : (List.range m ++ r)[k]? = some k := by
  rw [List.getElem?_append_left (by simpa using h)]; simp [h]
/-- objects in another order, the first ones in their places -/
theorem order_ok (hM : MemOK Γ w0 S0 X w S σ ob) {m : Nat} (hm : X.roots.length = m) {ord ids l : List Nat} (hord : reach ob 400 l (List.range m) = ord) (hc : clsd ob ord ids = true) :
    MemOK Γ w0 S0 X w S (fun k => σ (ord.getD k 0)) (ord.map fun j => renO (fun j => posN j ord) (ob.getD j none)) ∧
    ∀ j ∈ ord, Moved σ ob (fun k => σ (ord.getD k 0)) (ord.map fun j => renO (fun j => posN j ord) (ob.getD j none)) (fun j => posN j ord) j := by
  obtain ⟨hnd, _, hob⟩ := clsd_spec hc
  obtain ⟨h1, h2, h3, h4⟩ := move_objs hnd hob hM.objs hM.apart rfl rfl rfl
  refine ⟨{ objs := h3, apart := h4, own := ?_, old := hM.old, grow := hM.grow, s0 := hM.s0, snew := hM.snew, sin := hM.sin, glob := hM.glob, env := hM.env, kept := hM.kept, root := ?_ }, h1⟩
  · intro k o' hk
    obtain ⟨j, o, hj, hoj, _, hs⟩ := h2 k o' hk
    rw [hs]
    exact hM.own j o hoj
  · intro k p hk
    have hkm : k < m := by rw [← hm]; exact (List.getElem?_eq_some_iff.1 hk).1
    obtain ⟨r, hr⟩ := reach_pre (ob := ob) 400 l (List.range m)
    rw [hord] at hr
    have hg : ord[k]? = some k := by rw [hr]; exact pre_get hkm
    refine ⟨by simp; exact (List.getElem?_eq_some_iff.1 hg).1, ?_⟩
    rw [List.getD_eq_getElem?_getD, hg]
    exact (hM.root k p hk).2
theorem restrict_ok {n m : Nat} {live : List Nat} {st : St} {a : Act} (hm : X.roots.length = m) (h : StOK Γ w0 S0 X n st a w S σ) (hc : closedR m live st = true) : ∃ σ', StOK Γ w0 S0 X n (restrict m live st) a w S σ' := by
  obtain ⟨tm, ob⟩ := st
  simp only [closedR] at hc
  simp only [restrict]
  generalize htm : (live.map fun t => (t, clean ob (get tm t))) = tm1 at *
  generalize hord : reach ob 400 (idsOb ob (List.range m) ++ idsL (tm1.map (·.2))) (List.range m) = ord at *
  obtain ⟨hmem, hmv⟩ := order_ok h.mem hm hord hc
  obtain ⟨_, hin, _⟩ := clsd_spec hc
  refine ⟨_, ⟨hmem, fun t => ?_, h.size, h.defers⟩⟩
  have e : (tm1.map fun p => (p.1, renA (fun j => posN j ord) p.2)) = live.map fun t => (t, renA (fun j => posN j ord) (clean ob (get tm t))) := by rw [← htm, List.map_map]; rfl
  show RepA Γ.P w S _ _ (get (tm1.map fun p => (p.1, renA (fun j => posN j ord) p.2)) t) _
  rw [e, get_map]
  split
  · rename_i ht
    exact RepA.ren (g := fun j => posN j ord) _ _ (fun j hj => hmv j (hin j (ids_mem (p := (t, clean ob (get tm t))) hj (by rw [← htm]; exact List.mem_map.2 ⟨t, ht, rfl⟩)))) (clean_ok (h.tm t))
  · simp only [RepA]
end
end Go.Proofs.Ytbdekjlnnbjicaa.V

/- Operations that do nothing to objects: they hand on one value, or none, whatever goes on behind them. -/
namespace Go.Proofs.Ytbdekjlnnbjicaa.V
open Go
set_option linter.unusedVariables false
set_option linter.unusedSimpArgs false

/-- one thing is handed on, or none -/
def Aff {A : Type} (F : ∀ R : Type, (A → Option R) → Option R) : Prop := (∃ a, ∀ R K, F R K = K a) ∨ ∀ R K, F R K = none
section
variable {A B : Type} {F : ∀ R : Type, (A → Option R) → Option R}
theorem Aff.pure (a : A) : Aff (fun R (K : A → Option R) => K a) := .inl ⟨a, fun _ _ => rfl⟩
theorem Aff.zero : Aff (fun R (_ : A → Option R) => none) := .inr fun _ _ => rfl
theorem Aff.map (h : Aff F) (g : A → B) : Aff (fun R (K : B → Option R) => F R fun a => K (g a)) := by
  rcases h with ⟨a, h⟩ | h
  · exact .inl ⟨g a, fun R K => h R _⟩
  · exact .inr fun R K => h R _
theorem Aff.bind (h : Aff F) {G : A → ∀ R : Type, (B → Option R) → Option R} (hG : ∀ a, Aff (G a)) : Aff (fun R (K : B → Option R) => F R fun a => G a R K) := by
  rcases h with ⟨a, h⟩ | h
  · rcases hG a with ⟨b, hb⟩ | hb
    · exact .inl ⟨b, fun R K => (h R _).trans (hb R K)⟩
    · exact .inr fun R K => (h R _).trans (hb R K)
  · exact .inr fun R K => h R _
theorem Aff.cond (b : Bool) (h : Aff F) : Aff (fun R K => bif b then F R K else none) := by
  cases b
  · exact .inr fun _ _ => rfl
  · exact h
theorem Aff.opt (o : Option A) : Aff (fun R (K : A → Option R) => match o with | some a => K a | none => none) := by
  cases o
  · exact .inr fun _ _ => rfl
  · exact .inl ⟨_, fun _ _ => rfl⟩
end
theorem dInt_a (k : IntKind) (x : D) : Aff (fun R (K : Int → Option R) => dInt k x K) := by
  cases x <;> first | exact .inr fun _ _ => rfl | exact Aff.cond _ (Aff.pure _)
theorem dBool_a (x : D) : Aff (fun R (K : Bool → Option R) => dBool x K) := by
  cases x <;> first | exact .inr fun _ _ => rfl | exact .inl ⟨_, fun _ _ => rfl⟩
theorem dStr_a (x : D) : Aff (fun R (K : List UInt8 → Option R) => dStr x K) := by
  cases x <;> first | exact .inr fun _ _ => rfl | exact .inl ⟨_, fun _ _ => rfl⟩
theorem dSlice_a (x : D) : Aff (fun R (K : Cp × List D → Option R) => dSlice x fun c l => K (c, l)) := by
  cases x <;> first | exact .inr fun _ _ => rfl | exact .inl ⟨_, fun _ _ => rfl⟩
theorem dAgg_a (x : D) : Aff (fun R (K : List D → Option R) => dAgg x K) := by
  cases x <;> first | exact .inr fun _ _ => rfl | exact .inl ⟨_, fun _ _ => rfl⟩
theorem lNil_a {α B : Type} (l : List α) {F : ∀ R : Type, (B → Option R) → Option R} (h : Aff F) : Aff (fun R K => lNil l (F R K)) := by
  cases l
  · exact h
  · exact .inr fun _ _ => rfl
theorem lCons_a {α : Type} (l : List α) : Aff (fun R (K : α × List α → Option R) => lCons l fun a r => K (a, r)) := by
  cases l
  · exact .inr fun _ _ => rfl
  · exact .inl ⟨_, fun _ _ => rfl⟩
theorem lGet_a {α : Type} (l : List α) (i : Nat) : Aff (fun R (K : α → Option R) => lGet l i K) := by
  unfold lGet; cases l[i]? <;> first | exact .inr fun _ _ => rfl | exact Aff.pure _
theorem idx_a {α : Type} (l : List α) (n : Int) : Aff (fun R (K : α → Option R) => idx l n K) := Aff.cond _ (lGet_a _ _)
theorem kBytes_a (l : List D) : Aff (fun R (K : List UInt8 → Option R) => kBytes l K) := by
  unfold kBytes; cases unBytes l
  · exact .inr fun _ _ => rfl
  · exact .inl ⟨_, fun _ _ => rfl⟩
theorem openL_a {f : TypeId → D → ∀ R : Type, (D → Option R) → Option R} (hf : ∀ t x, Aff (f t x)) {f' : ∀ R : Type, TypeId → D → (D → Option R) → Option R} (he : ∀ R t x K, f' R t x K = f t x R K) :
    ∀ (ts : List TypeId) (ys : List D), Aff (fun R (K : List D → Option R) => openL (f' R) ts ys K)
  | [], ys => lNil_a ys (Aff.pure _)
  | t :: ts, ys => by
    cases ys with
    | nil => exact .inr fun _ _ => rfl
    | cons y r =>
      have h1 := (hf t y).bind (G := fun y' R (K : List D → Option R) => openL (f' R) ts r fun r' => K (y' :: r')) fun y' => (openL_a hf he ts r).map (y' :: ·)
      rcases h1 with ⟨a, h⟩ | h
      · exact .inl ⟨a, fun R K => by simp only [openL, lCons, he]; exact h R K⟩
      · exact .inr fun R K => by simp only [openL, lCons, he]; exact h R K
theorem openD_a (P : Program) : ∀ (n : Nat) (t : TypeId) (x : D), Aff (fun R (K : D → Option R) => openD P n t x K)
  | 0, t, x => .inr fun _ _ => rfl
  | n + 1, t, x => by
    unfold openD
    cases ds P t <;> try exact .inr fun _ _ => rfl
    case int k => exact (dInt_a k x).map _
    case bool => exact (dBool_a x).map _
    case string => exact (dStr_a x).map _
    case slice e => exact (dSlice_a x).map fun p => D.slice p.1 p.2
    case struct fs => exact (dAgg_a x).bind fun ys => (openL_a (f := fun t x R K => openD P n t x K) (fun t x => openD_a P n t x) (f' := fun R t x K => openD P n t x K) (fun _ _ _ _ => rfl) _ ys).map _
    case array => exact (dAgg_a x).map _
theorem navD_a : ∀ (p : List Nat) (x : D), Aff (fun R (K : D → Option R) => navD p x K)
  | [], x => Aff.pure x
  | i :: p, x => (dAgg_a x).bind fun ys => (lGet_a ys i).bind fun y => navD_a p y
theorem navA_a (P : Program) : ∀ (p : List Nat) (a : AV), Aff (fun R (K : AV ⊕ D → Option R) => navA P p a K)
  | [], a => Aff.pure _
  | i :: p, a => by
    cases a <;> try exact .inr fun _ _ => rfl
    case d t x => exact (navD_a (i :: p) x).map _
    case agg t l =>
      simp only [navA]
      cases l[i]? with
      | none => exact .inr fun _ _ => rfl
      | some a => exact navA_a P p a
theorem nilK_a (op : BinOp) (p q : Option Bool) : Aff (fun R (K : AV → Option R) => nilK op p q K) := by
  cases p <;> cases q <;> try exact .inr fun _ _ => rfl
  refine Aff.cond _ ?_
  cases op <;> first | exact .inr fun _ _ => rfl | exact .inl ⟨_, fun _ _ => rfl⟩
theorem nilD_a (P : Program) (op : BinOp) (t : TypeId) (x y : AV) : Aff (fun R (K : AV → Option R) => match ds P t with
    | .slice _ => nilK op (isNilS x) (isNilS y) K
    | .pointer _ => nilK op (isNilP x) (isNilP y) K
    | _ => none) := by
  cases ds P t <;> first | exact .inr fun _ _ => rfl | exact nilK_a _ _ _
theorem errK_a (P : Program) (op : BinOp) (t : TypeId) (a : AV) : Aff (fun R (K : AV → Option R) => errK P op t a K) := by
  unfold errK
  split
  · exact .inl ⟨_, fun _ _ => rfl⟩
  · exact .inl ⟨_, fun _ _ => rfl⟩
  · exact .inr fun _ _ => rfl
theorem opInt_a (op : BinOp) (k k' : IntKind) (a b : Int) : Aff (fun R (K : AV → Option R) => bif kEq k k' then (match opInt op k a b with | some r => K r | none => none) else none) := by
  refine Aff.cond _ ?_
  cases opInt op k a b <;> first | exact .inr fun _ _ => rfl | exact Aff.pure _
theorem opStr_a (op : BinOp) (a b : List UInt8) : Aff (fun R (K : AV → Option R) => match opStr op a b with | some r => K r | none => none) := by
  cases opStr op a b <;> first | exact .inr fun _ _ => rfl | exact Aff.pure _
theorem quo_a {v : AV} (b : Bool) : Aff (fun R (K : AV → Option R) => bif b then none else K v) := by
  cases b
  · exact Aff.pure _
  · exact .inr fun _ _ => rfl
theorem opBin_a (P : Program) (op : BinOp) (t : TypeId) (x y : AV) : Aff (fun R (K : AV → Option R) => opBin P op t x y K) := by
  cases x <;> cases y <;> try exact nilD_a P op t _ _
  case i.i k a k' b => cases op <;> first | exact opInt_a _ k k' a b | exact Aff.cond _ (Aff.pure _) | exact Aff.cond _ (quo_a _)
  case s.s a b => cases op <;> first | exact .inr fun _ _ => rfl | exact Aff.pure _ | exact opStr_a _ a b | exact Aff.cond _ (Aff.pure _)
  case b.b a b =>
    cases op <;> first
      | exact .inr fun _ _ => rfl
      | (simp only [opBin]; cases ds P t <;> first | exact .inr fun _ _ => rfl | exact Aff.pure _)
  case d.d u a u' b => exact Aff.cond _ (by cases op <;> first | exact .inr fun _ _ => rfl | exact Aff.pure _)
theorem opFieldAddr_a (P : Program) (s : TypeId) (i : Nat) (a : AV) : Aff (fun R (K : AV → Option R) => opFieldAddr P s i a K) := by
  unfold opFieldAddr
  cases fieldT P s i with
  | none => cases a <;> exact .inr fun _ _ => rfl
  | some ft => cases a <;> first | exact .inr fun _ _ => rfl | exact Aff.cond _ (Aff.pure _) | exact Aff.cond _ ((dAgg_a _).bind fun ys => (lGet_a ys i).map _)
theorem opField_a (P : Program) (s : TypeId) (i : Nat) (a : AV) : Aff (fun R (K : AV → Option R) => opField P s i a K) := by
  unfold opField
  cases fieldT P s i with
  | none => cases a <;> exact .inr fun _ _ => rfl
  | some ft => cases a <;> first | exact .inr fun _ _ => rfl | (rename_i l; refine Aff.cond _ ?_; cases l[i]? <;> first | exact .inr fun _ _ => rfl | exact Aff.pure _) | exact Aff.cond _ ((dAgg_a _).bind fun ys => (lGet_a ys i).bind fun z => (openD_a P depth ft z).map _)
theorem opIndexAddr_a (P : Program) (t : TypeId) (x ix : AV) (ob : Objs) : Aff (fun R (K : AV → Option R) => opIndexAddr P t x ix ob K) := by
  unfold opIndexAddr
  cases ix <;> cases x <;> try exact .inr fun _ _ => rfl
  case i.sl => cases ds P t <;> first | exact .inr fun _ _ => rfl | exact Aff.cond _ ((idx_a _ _).map _)
  case i.ref k n e j =>
    cases ds P t <;> try exact .inr fun _ _ => rfl
    refine Aff.cond _ ?_
    cases ob[j]? with
    | none => exact .inr fun _ _ => rfl
    | some o => cases o with
      | none => exact .inr fun _ _ => rfl
      | some o => cases o <;> first | exact .inr fun _ _ => rfl | exact Aff.cond _ (Aff.pure _)
  case i.vp => cases ds P t <;> first | exact .inr fun _ _ => rfl | exact Aff.cond _ ((dAgg_a _).bind fun ys => (idx_a ys _).map _)
  case i.ptr => cases ds P t <;> first | exact .inr fun _ _ => rfl | exact Aff.cond _ (Aff.pure _)
  case i.ap => cases ds P t <;> first | exact .inr fun _ _ => rfl | exact Aff.cond _ (Aff.pure _)
theorem opIndex_a (P : Program) (t : TypeId) (x ix : AV) : Aff (fun R (K : AV → Option R) => opIndex P t x ix K) := by
  unfold opIndex
  cases ix <;> cases x <;> try exact .inr fun _ _ => rfl
  case i.s => cases ds P t <;> first | exact .inr fun _ _ => rfl | exact (idx_a _ _).map _
  case i.d => cases ds P t <;> first | exact .inr fun _ _ => rfl | exact Aff.cond _ ((dAgg_a _).bind fun ys => (idx_a ys _).bind fun y => (openD_a P depth _ y).map _)
theorem opExtract_a (x : AV) (i : Nat) : Aff (fun R (K : AV → Option R) => opExtract x i K) := by
  cases x <;> try exact .inr fun _ _ => rfl
  rename_i l; simp only [opExtract]; cases l[i]? <;> first | exact .inr fun _ _ => rfl | exact Aff.pure _
theorem opBuild_a (P : Program) (t : TypeId) (ps : List (Nat × AV)) : Aff (fun R (K : AV → Option R) => opBuild P t ps K) := by
  refine Aff.cond _ ?_
  cases fillA P t (zeroA P depth t) ps <;> first | exact .inr fun _ _ => rfl | exact Aff.pure _
/-- a load hands the objects on as they are -/
theorem opLoad_a (P : Program) (t : TypeId) (a : AV) (ob : Objs) : Aff (fun R (K : AV → Option R) => opLoad P t a ob fun v _ => K v) ∧ ∀ R (K : AV → Objs → Option R), opLoad P t a ob K = opLoad P t a ob fun v _ => K v ob := by
  refine ⟨?_, fun R K => ?_⟩
  · unfold opLoad
    cases a <;> try exact .inr fun _ _ => rfl
    case vp => exact Aff.cond _ ((openD_a P _ _ _).map _)
    case ptr j p u =>
      refine Aff.cond _ ?_
      cases ob[j]? with
      | none => exact .inr fun _ _ => rfl
      | some o => cases o with
        | none => exact .inr fun _ _ => rfl
        | some o =>
          cases o
          · refine (navA_a P p _).bind fun r => ?_
            cases r
            · exact Aff.cond _ (Aff.pure _)
            · exact (openD_a P _ _ _).map _
          · exact .inr fun _ _ => rfl
    case ap j i p u =>
      refine Aff.cond _ ?_
      cases ob[j]? with
      | none => exact .inr fun _ _ => rfl
      | some o => cases o with
        | none => exact .inr fun _ _ => rfl
        | some o =>
          cases o
          · exact .inr fun _ _ => rfl
          · exact (lGet_a _ _).bind fun x => (navD_a p x).bind fun y => (openD_a P _ _ _).map _
  · unfold opLoad; rfl
theorem bnd_a (a : Option AV) (df top : Nat) : Aff (fun R (K : Nat → Option R) => bnd a df top K) := by
  unfold bnd
  cases a with
  | none => exact Aff.pure _
  | some a => cases a <;> first | exact .inr fun _ _ => rfl | exact Aff.cond _ (Aff.pure _)
theorem opSlice_a (P : Program) (t : TypeId) (x : AV) (lo hi mx : Option AV) (ob : Objs) (hx : noObj x = true) :
    Aff (fun R (K : AV → Option R) => opSlice P false t x lo hi mx ob fun v _ => K v) ∧ ∀ R (K : AV → Objs → Option R), opSlice P false t x lo hi mx ob K = opSlice P false t x lo hi mx ob fun v _ => K v ob := by
  unfold opSlice
  cases x <;> (try exact Bool.noConfusion (show false = true from hx)) <;> refine ⟨?_, fun R K => ?_⟩ <;> cases ds P t <;> (try exact .inr fun _ _ => rfl) <;> (try rfl)
  case s.refine_1.string =>
    cases mx <;> first | exact .inr fun _ _ => rfl | exact (bnd_a _ _ _).bind fun h => (bnd_a _ _ _).map _
  case snil.refine_1.slice =>
    cases mx <;> first | exact .inr fun _ _ => rfl | exact (bnd_a _ _ _).bind fun h => (bnd_a _ _ _).map _
  case vp.refine_1.array =>
    rename_i y _ _
    cases y <;> first | exact .inr fun _ _ => rfl | (cases lo <;> cases hi <;> cases mx <;> first | exact .inr fun _ _ => rfl | exact Aff.cond _ (Aff.pure _))
  case vp.refine_2.array =>
    rename_i y _ _
    cases y <;> first | rfl | (cases lo <;> cases hi <;> cases mx <;> rfl)
  case sl.refine_1.slice =>
    refine Aff.cond _ ?_
    cases mx
    · exact (bnd_a _ _ _).bind fun h => (bnd_a _ _ _).map _
    · cases hi
      · exact .inr fun _ _ => rfl
      · exact (bnd_a _ _ _).bind fun m => (bnd_a _ _ _).bind fun h => (bnd_a _ _ _).bind fun a => Aff.cond _ (Aff.pure _)

/-- of calls: those alone that hand on nothing but data and leave nothing -/
theorem calmH_nil (call : Handle) (g : FuncId) (args : List AV) (a : Nat) (l : List Nat) (F : Nat → Option Obj) : calmH call g args ((a :: l).map F) = none := rfl
theorem frzL_noRef {ob : Objs} : ∀ {l : List AV}, (l.all noRef) = true → frzL l ob = (l, ob)
  | [], _ => rfl
  | a :: r, h => by
    simp only [List.all_cons, Bool.and_eq_true] at h
    have h1 : frz a ob = (a, ob) := by
      cases a <;> first | rfl | exact Bool.noConfusion (show false = true from h.1)
    simp only [frzL, h1, frzL_noRef h.2]
theorem aInt_a (k : IntKind) (x : AV) : Aff (fun R (K : Int → Option R) => aInt k x K) := by
  cases x <;> first | exact .inr fun _ _ => rfl | exact Aff.cond _ (Aff.pure _)
theorem aBool_a (x : AV) : Aff (fun R (K : Bool → Option R) => aBool x K) := by
  cases x <;> first | exact .inr fun _ _ => rfl | exact .inl ⟨_, fun _ _ => rfl⟩
theorem aStr_a (x : AV) : Aff (fun R (K : List UInt8 → Option R) => aStr x K) := by
  cases x <;> first | exact .inr fun _ _ => rfl | exact .inl ⟨_, fun _ _ => rfl⟩
theorem aSl_a (e : TypeId) (x : AV) : Aff (fun R (K : Cp × List D → Option R) => aSl e x fun c l => K (c, l)) := by
  cases x <;> first | exact .inr fun _ _ => rfl | exact .inl ⟨(_, _), fun _ _ => rfl⟩ | (exact Aff.cond _ (Aff.pure (A := Cp × List D) (_, _)))
theorem aRow_a (e : TypeId) (x : AV) : Aff (fun R (K : AV → Option R) => aRow e x K) := by
  cases x <;> first | exact .inr fun _ _ => rfl | exact .inl ⟨_, fun _ _ => rfl⟩ | (exact Aff.cond _ (Aff.pure _))
theorem aD_a (t : TypeId) (x : AV) : Aff (fun R (K : D → Option R) => aD t x K) := by
  cases x <;> first | exact .inr fun _ _ => rfl | exact Aff.cond _ (Aff.pure _)
theorem aPtr_a (t : TypeId) (x : AV) : Aff (fun R (K : AV → Option R) => aPtr t x K) := by
  cases x <;> first | exact .inr fun _ _ => rfl | exact Aff.cond _ (Aff.pure _) | exact .inl ⟨_, fun _ _ => rfl⟩
theorem aTuple_a (x : AV) : Aff (fun R (K : List AV → Option R) => aTuple x K) := by
  cases x <;> first | exact .inr fun _ _ => rfl | exact .inl ⟨_, fun _ _ => rfl⟩
theorem openA_a (P : Program) (t : TypeId) (a : AV) : Aff (fun R (K : AV → Option R) => openA P t a K) := by
  unfold openA
  cases ds P t <;> try exact .inr fun _ _ => rfl
  case int k => exact (aInt_a k a).map _
  case bool => exact (aBool_a a).map _
  case string => exact (aStr_a a).map _
  case slice e => exact aRow_a _ a
  case struct fs => exact (aD_a _ a).bind fun x => (openD_a P depth t x).map _
  case array => exact (aD_a _ a).bind fun x => (dAgg_a x).map _
  case pointer e => exact aPtr_a _ a
  case unsafePointer => cases a <;> first | exact .inr fun _ _ => rfl | exact .inl ⟨_, fun _ _ => rfl⟩
  case interface => cases a <;> first | exact .inr fun _ _ => rfl | exact .inl ⟨_, fun _ _ => rfl⟩
theorem openAs_a (P : Program) : ∀ (ts : List TypeId) (l : List AV), Aff (fun R (K : List AV → Option R) => openAs P ts l K)
  | [], l => lNil_a l (Aff.pure _)
  | t :: ts, l => by
    cases l with
    | nil => exact .inr fun _ _ => rfl
    | cons a r => exact (openA_a P t a).bind fun a' => (openAs_a P ts r).map (a' :: ·)
theorem openR_a (P : Program) (t : TypeId) (a : AV) : Aff (fun R (K : AV → Option R) => openR P t a K) := by
  unfold openR
  cases h : ds P t
  case tuple ts => exact (aTuple_a a).bind fun l => (openAs_a P ts.toList l).map _
  all_goals exact openA_a P t a

/-- a calm operation hands on one value and the objects as they are, or nothing -/
def Calm (ob : Objs) (F : ∀ R : Type, (AV → Objs → Option R) → Option R) : Prop := (∃ a, ∀ R K, F R K = K a ob) ∨ ∀ R K, F R K = none
theorem Calm.of {ob : Objs} {F : ∀ R : Type, (AV → Objs → Option R) → Option R} (h : Aff fun R (K : AV → Option R) => F R fun v _ => K v) (he : ∀ R K, F R K = F R fun v _ => K v ob) : Calm ob F := by
  rcases h with ⟨a, h⟩ | h
  · exact .inl ⟨a, fun R K => (he R K).trans (h R fun v => K v ob)⟩
  · exact .inr fun R K => (he R K).trans (h R fun v => K v ob)
theorem Calm.aff {ob : Objs} {F : ∀ R : Type, (AV → Option R) → Option R} (h : Aff F) : Calm ob fun R K => F R fun a => K a ob := by
  rcases h with ⟨a, h⟩ | h
  · exact .inl ⟨a, fun R K => h R _⟩
  · exact .inr fun R K => h R _
theorem calm_call (Γ : Ctx) (call : Handle) (t : TypeId) (g : AV) (as : List AV) (ob : Objs) (hg : noCaps g = true) (h : (as.all noRef) = true) : Calm ob fun R K => opCall Γ (calmH call) t g as ob K := by
  unfold opCall
  cases g <;> try exact Bool.noConfusion (show false = true from hg)
  rename_i f caps
  cases caps with
  | cons _ _ => exact Bool.noConfusion (show false = true from hg)
  | nil =>
    simp only [opCall1]
    have hfc : frzC (memF f Γ.refs) (as ++ []) ob = (as, ob) := by rw [List.append_nil]; cases memF f Γ.refs <;> simp only [frzC, frzL_noRef h]
    simp only [hfc]
    cases hb : (clsd ob (reach ob 400 (idsOb ob (nubN (idsL as))) (nubN (idsL as))) (nubN (idsL as)) && Nat.beq (rootsOf Γ.roots f) (nubN (idsL as)).length) with
    | false => exact .inr fun R K => by simp only [hb, cond_false]
    | true =>
      obtain ⟨x, hx⟩ := reach_pre (ob := ob) 400 (idsOb ob (nubN (idsL as))) (nubN (idsL as))
      cases hr : nubN (idsL as) with
      | cons a l =>
        rw [hr] at hx
        refine .inr fun R K => ?_
        simp only [hr] at hb
        simp only [hr]
        simp only [hb, cond_true]
        rw [hx]
        simp only [List.cons_append, calmH_nil]
      | nil =>
        rw [hr] at hb
        have h0 : reach ob 400 (idsOb ob []) [] = [] := rfl
        simp only [h0] at hb ⊢
        simp only [hb, cond_true, List.map_nil]
        simp only [calmH, lNil]
        cases hc : call f (renL (fun j => posN j []) as) [] with
        | none => exact .inr fun R K => rfl
        | some p =>
          obtain ⟨c, r, os⟩ := p
          cases os with
          | cons _ _ => exact .inr fun R K => rfl
          | nil =>
            cases hri : idsA r with
            | cons _ _ => exact .inr fun R K => by simp only [lNil, hri]
            | nil =>
            cases c with
            | false => exact .inr fun R K => by simp only [lNil, hri, Bool.and_false, cond_false]
            | true =>
            have := openR_a Γ.P t (renA (backN [] (List.length ob)) r)
            rcases this with ⟨a, h1⟩ | h1
            · refine .inl ⟨a, fun R K => ?_⟩
              simp only [lNil, hri, sameBoxes, Bool.true_and, cond_true]
              exact (h1 R _).trans (by simp [putRoots, killAll])
            · refine .inr fun R K => ?_
              simp only [lNil, hri, sameBoxes, Bool.true_and, cond_true]
              exact h1 R _
theorem opConvert_c (P : Program) (s d : TypeId) (x : AV) (ob : Objs) : Calm ob fun R K => opConvert P false s d x ob K := by
  unfold opConvert
  cases und P s with
  | none => exact .inr fun _ _ => rfl
  | some sd =>
    cases ds P d <;> try (cases x <;> first | exact .inr fun R K => rfl | exact .inl ⟨_, fun R K => rfl⟩)
    case slice e =>
      cases x <;> try exact .inr fun _ _ => rfl
      all_goals
        simp only
        cases ds P e <;> try exact .inr fun _ _ => rfl
        rename_i k
        cases k <;> first | exact .inr fun _ _ => rfl | exact .inl ⟨_, fun _ _ => rfl⟩
    case string =>
      cases sd <;> try (cases x <;> first | exact .inr fun R K => rfl | exact .inl ⟨_, fun R K => rfl⟩)
      rename_i e
      simp only
      cases ds P e <;> try (cases x <;> first | exact .inr fun R K => rfl | exact .inl ⟨_, fun R K => rfl⟩)
      rename_i k
      cases k <;> try (cases x <;> first | exact .inr fun R K => rfl | exact .inl ⟨_, fun R K => rfl⟩)
      cases hq : elems P (underId P e) ob x with
      | none => cases x <;> first | exact .inl ⟨_, fun R K => rfl⟩ | exact .inr fun R K => by simp only [hq]
      | some xs =>
        have hk := Calm.aff (ob := ob) ((kBytes_a xs).map AV.s)
        rcases hk with ⟨a, hk⟩ | hk
        · cases x <;> first | exact .inl ⟨_, fun R K => rfl⟩ | exact .inl ⟨a, fun R K => by simp only [hq]; exact hk R K⟩
        · cases x <;> first | exact .inl ⟨_, fun R K => rfl⟩ | exact .inr fun R K => by simp only [hq]; exact hk R K
theorem fillL_noRef (P : Program) (e : TypeId) : ∀ (ps : List (Nat × AV)) (xs : List D), (ps.all fun p => noRef p.2) = true → ∃ o : Option (List D), ∀ ob : Objs, fillL P e xs ps ob = o.map fun ys => (ys, ob)
  | [], xs, _ => ⟨some xs, fun _ => rfl⟩
  | (i, v) :: r, xs, h => by
    simp only [List.all_cons, Bool.and_eq_true] at h
    have h1 : ∀ ob, frz v ob = (v, ob) := fun ob => by
      cases v <;> first | rfl | exact Bool.noConfusion (show false = true from h.1)
    simp only [fillL, h1]
    cases toD v with
    | none => exact ⟨none, fun _ => rfl⟩
    | some y =>
      cases hb : (isTy P e v && Nat.blt i xs.length) with
      | false => exact ⟨none, fun _ => by simp only [cond_false]; rfl⟩
      | true =>
        obtain ⟨o, ho⟩ := fillL_noRef P e r (xs.set i y) h.2
        exact ⟨o, fun ob => by simp only [cond_true]; exact ho ob⟩
theorem opBuildSlice_c2 (P : Program) (t : TypeId) (n : Nat) (ps : List (Nat × AV)) (h : (ps.all fun p => noRef p.2) = true) : (∃ a, ∀ (ob : Objs) (R : Type) (K : AV → Objs → Option R), opBuildSlice P false t n ps ob K = K a ob) ∨ ∀ (ob : Objs) (R : Type) (K : AV → Objs → Option R), opBuildSlice P false t n ps ob K = none := by
  unfold opBuildSlice
  cases ds P t <;> try exact .inr fun _ _ _ => rfl
  rename_i e
  simp only
  cases toD (zeroA P depth e) with
  | none => exact .inr fun _ _ _ => rfl
  | some z =>
    simp only
    cases fits P e (zeroA P depth e) && Nat.ble (n * P.cellsOf e) 16777216 with
    | false => exact .inr fun _ _ _ => rfl
    | true =>
      obtain ⟨o, ho⟩ := fillL_noRef P e ps (List.replicate n z) h
      simp only [cond_true, ho]
      cases o <;> first | exact .inr fun _ _ _ => rfl | exact .inl ⟨_, fun _ _ _ => rfl⟩
theorem opBuildSlice_c (P : Program) (t : TypeId) (n : Nat) (ps : List (Nat × AV)) (ob : Objs) (h : (ps.all fun p => noRef p.2) = true) : Calm ob fun R K => opBuildSlice P false t n ps ob K := by
  rcases opBuildSlice_c2 P t n ps h with ⟨a, h⟩ | h
  · exact .inl ⟨a, h ob⟩
  · exact .inr (h ob)
theorem opBuiltin_c (P : Program) (b : Builtin) (ts : List TypeId) (as : List AV) (ob : Objs) (h : (match b with | .len | .min | .max | .unsafeSliceData => true | _ => false) = true) : Calm ob fun R K => opBuiltin P b ts as ob K := by
  cases b <;> try exact Bool.noConfusion (show false = true from h)
  case len =>
    cases ts <;> cases as <;> try exact .inr fun _ _ => rfl
    rename_i t ts a as
    simp only [opBuiltin]
    cases ds P t <;> try (first | exact .inr fun _ _ => rfl | exact .inl ⟨_, fun _ _ => rfl⟩)
    case pointer p => simp only; cases ds P p <;> first | exact .inr fun _ _ => rfl | exact .inl ⟨_, fun _ _ => rfl⟩
    case string => cases a <;> first | exact .inr fun _ _ => rfl | exact .inl ⟨_, fun _ _ => rfl⟩
    case slice => simp only; cases lenA ob a <;> first | exact .inr fun _ _ => rfl | exact .inl ⟨_, fun _ _ => rfl⟩
  case unsafeSliceData =>
    cases as with
    | nil => cases ts <;> exact .inr fun _ _ => rfl
    | cons x as => cases as with
      | cons _ _ => cases ts <;> exact .inr fun _ _ => rfl
      | nil =>
        simp only [opBuiltin]
        cases x <;> try exact .inr fun _ _ => rfl
        case snil => exact .inl ⟨_, fun _ _ => rfl⟩
        case sl e c xs => cases c <;> first | exact .inr fun _ _ => rfl | exact .inl ⟨_, fun _ _ => rfl⟩
        case ref e j =>
          simp only
          cases ob[j]? with
          | none => exact .inr fun _ _ => rfl
          | some o => cases o with
            | none => exact .inr fun _ _ => rfl
            | some o => cases o with
              | box => exact .inr fun _ _ => rfl
              | arr e xs fz => cases xs <;> first | exact .inr fun _ _ => rfl | exact .inl ⟨_, fun _ _ => rfl⟩
  case min =>
    cases ts <;> cases as <;> (try exact .inr fun _ _ => rfl) <;> (rename_i a as; cases a) <;> (try exact .inr fun _ _ => rfl) <;> simp only [opBuiltin]
    all_goals (rename_i k x; cases minL k x as <;> first | exact .inr fun _ _ => rfl | exact .inl ⟨_, fun _ _ => rfl⟩)
  case max =>
    cases ts <;> cases as <;> (try exact .inr fun _ _ => rfl) <;> (rename_i a as; cases a) <;> (try exact .inr fun _ _ => rfl) <;> simp only [opBuiltin]
    all_goals (rename_i k x; cases maxL k x as <;> first | exact .inr fun _ _ => rfl | exact .inl ⟨_, fun _ _ => rfl⟩)
theorem opPtrEq_a (P : Program) (op : BinOp) (t : TypeId) (x y : AV) (ob : Objs) : Aff fun R (K : AV → Option R) => opPtrEq P op t x y ob K := by
  cases x <;> cases y <;> try exact .inr fun _ _ => rfl
  rename_i j p u j' p' u'
  unfold opPtrEq
  simp only
  cases ob[j]? with
  | none => exact .inr fun _ _ => rfl
  | some o => cases o with
    | none => exact .inr fun _ _ => rfl
    | some o => cases o with
      | arr => exact .inr fun _ _ => rfl
      | box tb c =>
        cases ds P t <;> try exact .inr fun _ _ => rfl
        refine Aff.cond _ ?_
        cases op <;> first | exact .inr fun _ _ => rfl | exact Aff.pure _
theorem opPtrConv_a (P : Program) (s d : TypeId) (x : AV) (ob : Objs) : Aff fun R (K : AV → Option R) => opPtrConv P s d x ob K := by
  cases x <;> try exact .inr fun _ _ => rfl
  rename_i j p u
  cases p with
  | cons i p =>
    unfold opPtrConv
    simp only
    cases ob[j]? with
    | none => exact .inr fun _ _ => rfl
    | some o => cases o with
      | none => exact .inr fun _ _ => rfl
      | some o => cases o with
        | arr => exact .inr fun _ _ => rfl
        | box tb c =>
          simp only
          cases navA P (i :: p) c fun _ => some () with
          | none =>
            cases und P s with
            | none => exact .inr fun _ _ => rfl
            | some sd => cases sd <;> cases ds P d <;> exact .inr fun _ _ => rfl
          | some z =>
            cases und P s with
            | none => exact .inr fun _ _ => rfl
            | some sd => cases sd <;> cases ds P d <;> first | exact .inr fun _ _ => rfl | exact Aff.cond _ (Aff.pure _)
  | nil =>
  unfold opPtrConv
  simp only
  cases ob[j]? with
  | none => exact .inr fun _ _ => rfl
  | some o => cases o with
    | none => exact .inr fun _ _ => rfl
    | some o => cases o with
      | arr => exact .inr fun _ _ => rfl
      | box tb c =>
        cases und P s with
        | none => exact .inr fun _ _ => rfl
        | some sd => cases sd <;> cases ds P d <;> first | exact .inr fun _ _ => rfl | exact Aff.cond _ (Aff.pure _)
/-- a part of a row of one's own that may be stored into: nothing is turned -/
theorem sliceOwn_c (P : Program) (t : TypeId) (e j : Nat) (l : AV) (hi : Option AV) (ob : Objs) : Calm ob fun R K => opSlice P true t (.ref e j) (some l) hi none ob K := by
  unfold opSlice
  cases ds P t <;> try exact .inr fun _ _ => rfl
  rename_i e0
  simp only
  cases Nat.beq e (underId P e0) with
  | false => exact .inr fun _ _ => rfl
  | true =>
    simp only [cond_true]
    cases ob[j]? with
    | none => exact .inr fun _ _ => rfl
    | some o => cases o with
      | none => exact .inr fun _ _ => rfl
      | some o => cases o with
        | box => exact .inr fun _ _ => rfl
        | arr e' xs fz =>
          cases fz with
          | true => exact .inr fun _ _ => rfl
          | false =>
            refine Calm.aff (F := fun R K => bnd hi xs.length xs.length fun h => bnd (some l) 0 h fun a => K (.vw e j a (h - a))) ?_
            exact (bnd_a _ _ _).bind fun h => (bnd_a _ _ _).map _
theorem sliceOwn_mono {P : Program} {t : TypeId} {e j : Nat} {l : AV} {hi : Option AV} {ob : Objs} {r : AV} (x : Objs) (h : opSlice P true t (.ref e j) (some l) hi none ob (fun v _ => some v) = some r) : opSlice P true t (.ref e j) (some l) hi none (ob ++ x) (fun v _ => some v) = some r := by
  unfold opSlice at h ⊢
  cases hd : ds P t
  case slice e0 =>
    rw [hd] at h
    simp only at h ⊢
    cases hj : ob[j]? with
    | none => rw [hj] at h; obtain ⟨_, h⟩ := cond_some h; exact absurd h (by simp)
    | some o =>
      have : (ob ++ x)[j]? = some o := by rw [List.getElem?_append_left (List.getElem?_eq_some_iff.1 hj).1]; exact hj
      rw [this]
      rw [hj] at h
      cases o with
      | none => exact h
      | some o => cases o with
        | box => exact h
        | arr e' xs fz => cases fz <;> exact h
  all_goals (rw [hd] at h; cases h)
theorem refA_spec {a : AV} (h : isRefA a = true) : ∃ e j, a = .ref e j := by
  cases a <;> first | exact ⟨_, _, rfl⟩ | exact Bool.noConfusion (show false = true from h)
/-- what is called calm is so -/
theorem calm_ok (Γ : Ctx) (call : Handle) (f : FuncId) (o : Oper) (ρ : Operand → AV) (ob : Objs) (h : isCalm Γ f o ρ = true) : Calm ob fun R K => stepOp Γ (calmH call) f o ρ ob K := by
  obtain ⟨dst, op, type, pos, after, guard⟩ := o
  cases op <;> simp only [stepOp] <;> (try exact Bool.noConfusion (show false = true from h))
  case makeFunc fn first caps =>
    cases fn <;> try exact .inr fun _ _ => rfl
    cases first.toList with
    | nil => exact .inl ⟨_, fun _ _ => rfl⟩
    | cons x r =>
      cases r with
      | cons _ _ => exact .inr fun _ _ => rfl
      | nil =>
        simp only
        cases ρ x <;> try exact .inr fun _ _ => rfl
        cases caps.toList with
        | nil => exact .inl ⟨_, fun _ _ => rfl⟩
        | cons _ _ => exact .inr fun _ _ => rfl
  case move x => exact .inl ⟨_, fun _ _ => rfl⟩
  case assign x => exact .inl ⟨_, fun _ _ => rfl⟩
  case pick c a b =>
    cases ρ c <;> try exact .inr fun _ _ => rfl
    rename_i x
    cases x
    · exact .inl ⟨_, fun _ _ => rfl⟩
    · exact .inl ⟨_, fun _ _ => rfl⟩
  case build t ps => exact Calm.aff (opBuild_a _ _ _)
  case buildSlice t n ps =>
    simp only [isCalm, Bool.and_eq_true, Bool.not_eq_true'] at h
    simp only [h.1]
    exact opBuildSlice_c _ _ _ _ _ (by simpa [List.all_map] using h.2)
  case load t a => exact Calm.of (opLoad_a _ _ _ _).1 (opLoad_a _ _ _ _).2
  case nilCheck x => cases ρ x <;> first | exact .inr fun _ _ => rfl | exact .inl ⟨_, fun _ _ => rfl⟩
  case binOp op t x y yt =>
    cases isNilC y with
    | true => exact Calm.aff (errK_a _ _ _ _)
    | false =>
    cases isPtr (ρ x) && isPtr (ρ y) with
    | true => exact Calm.aff (opPtrEq_a _ _ _ _ _ _)
    | false => exact Calm.aff (opBin_a _ _ _ _ _)
  case unOp op t x =>
    cases opUn op (ρ x) <;> first | exact .inr fun _ _ => rfl | exact .inl ⟨_, fun _ _ => rfl⟩
  case convert s d x =>
    simp only [isCalm, Bool.not_eq_true'] at h
    simp only [h]
    cases isPtr (ρ x) with
    | true => exact Calm.aff (opPtrConv_a _ _ _ _ _)
    | false => exact opConvert_c _ _ _ _ _
  case slice t x lo hi mx =>
    simp only [isCalm, Bool.or_eq_true, Bool.and_eq_true, Bool.not_eq_true'] at h
    rcases h with h | ⟨h1, h2, h3, h4⟩
    · simp only [h.1]
      have := opSlice_a Γ.P t (ρ x) (lo.map ρ) (hi.map ρ) (mx.map ρ) ob h.2
      exact Calm.of this.1 this.2
    · obtain ⟨e, j, hx⟩ := refA_spec h4
      simp only [h1, hx]
      cases lo with
      | none => cases h2
      | some l => cases mx with
        | some _ => cases h3
        | none => exact sliceOwn_c Γ.P t e j (ρ l) (hi.map ρ) ob
  case fieldAddr => exact Calm.aff (opFieldAddr_a _ _ _ _)
  case field => exact Calm.aff (opField_a _ _ _ _)
  case indexAddr => exact Calm.aff (opIndexAddr_a _ _ _ _ _)
  case index => exact Calm.aff (opIndex_a _ _ _ _)
  case extract => exact Calm.aff (opExtract_a _ _)
  case call c =>
    obtain ⟨callee, args, ats⟩ := c
    cases callee <;> try exact Bool.noConfusion (show false = true from h)
    case builtin b => exact opBuiltin_c _ _ _ _ _ (by cases b <;> first | rfl | exact Bool.noConfusion (show false = true from h))
    case value g =>
      simp only [isCalm, Bool.and_eq_true] at h
      exact calm_call _ _ _ _ _ _ h.1 (by simpa [List.all_map] using h.2)
theorem get_app {ob : Objs} {j : Nat} {o : Option Obj} (h : ob[j]? = some o) (T : Objs) : (ob ++ T)[j]? = some o := by
  rw [List.getElem?_append_left (List.getElem?_eq_some_iff.1 h).1]; exact h
def K0 : AV → Objs → Option AV := fun v _ => some v
theorem load_mono {P : Program} {t : TypeId} {a : AV} {ob : Objs} {r : AV} (x : Objs) (h : opLoad P t a ob K0 = some r) : opLoad P t a (ob ++ x) K0 = some r := by
  cases a <;> simp only [opLoad] at h ⊢ <;> try exact h
  case ptr j p u =>
    cases hj : ob[j]? with
    | none => rw [hj] at h; cases (Nat.beq u (underId P t)) <;> simp at h
    | some o => rw [get_app hj]; rw [hj] at h; exact h
  case ap j i p u =>
    cases hj : ob[j]? with
    | none => rw [hj] at h; cases (Nat.beq u (underId P t)) <;> simp at h
    | some o => rw [get_app hj]; rw [hj] at h; exact h
theorem indexAddr_mono {P : Program} {t : TypeId} {a b : AV} {ob : Objs} {r : AV} (x : Objs) (h : (opIndexAddr P t a b ob fun v => K0 v ob) = some r) : (opIndexAddr P t a b (ob ++ x) fun v => K0 v (ob ++ x)) = some r := by
  cases a <;> cases b <;> simp only [opIndexAddr] at h ⊢ <;> try exact h
  case ref.i e j k n =>
    cases hd : ds P t <;> rw [hd] at h <;> simp only at h ⊢ <;> try exact h
    cases hj : ob[j]? with
    | none => rw [hj] at h; rename_i e'; cases (Nat.beq e (underId P e')) <;> simp at h
    | some o => rw [get_app hj]; rw [hj] at h; exact h
theorem lenA_mono {ob : Objs} {a : AV} {n : Nat} (x : Objs) (h : lenA ob a = some n) : lenA (ob ++ x) a = some n := by
  cases a <;> simp only [lenA] at h ⊢ <;> try exact h
  case ref e j =>
    cases hj : ob[j]? with
    | none => rw [hj] at h; simp at h
    | some o => rw [get_app hj]; rw [hj] at h; exact h
theorem slice_same {P : Program} {t : TypeId} {x : AV} {lo hi mx : Option AV} (ob ob' : Objs) (hx : noObj x = true) : opSlice P false t x lo hi mx ob K0 = opSlice P false t x lo hi mx ob' K0 := by
  cases x
  case vp u y =>
    unfold opSlice
    cases ds P t <;> (try rfl)
    cases y <;> rfl
  all_goals (unfold opSlice; (try exact Bool.noConfusion (show false = true from hx)) <;> cases ds P t <;> (try rfl) <;> cases mx <;> (try rfl) <;> cases hi <;> rfl)
mutual
theorem renA_no (g : Nat → Nat) : ∀ a : AV, idsA a = [] → renA g a = a
  | .undef, _ | .i _ _, _ | .b _, _ | .s _, _ | .snil, _ | .sl _ _ _, _ | .d _ _, _ | .vp _ _, _ | .pnil, _ | .err _, _ => by simp only [renA]
  | .ptr _ _ _, h | .ref _ _, h | .ap _ _ _ _, h | .vw _ _ _ _, h | .hp _ _ _ _ _, h => by simp [idsA] at h
  | .fn f l, h | .agg f l, h => by simp only [idsA] at h; simp only [renA, renL_no g l h]
  | .tuple l, h => by simp only [idsA] at h; simp only [renA, renL_no g l h]
theorem renL_no (g : Nat → Nat) : ∀ l : List AV, idsL l = [] → renL g l = l
  | [], _ => by simp only [renL]
  | a :: r, h => by
    simp only [idsL, List.append_eq_nil_iff] at h
    simp only [renL, renA_no g a h.1, renL_no g r h.2]
end
/-- a calm call does not feel objects -/
theorem call_any {Γ : Ctx} {call : Handle} {t : TypeId} {g : AV} {as : List AV} {ob : Objs} {r : AV} (hg : noCaps g = true) (ha : (as.all noRef) = true) (T : Objs) (h : opCall Γ (calmH call) t g as ob K0 = some r) : opCall Γ (calmH call) t g as T K0 = some r := by
  unfold opCall at h ⊢
  cases g <;> try exact Bool.noConfusion (show false = true from hg)
  rename_i f caps
  cases caps with
  | cons _ _ => exact Bool.noConfusion (show false = true from hg)
  | nil =>
    have hfc : ∀ ob : Objs, frzC (memF f Γ.refs) (as ++ []) ob = (as, ob) := fun ob => by rw [List.append_nil]; cases memF f Γ.refs <;> simp only [frzC, frzL_noRef ha]
    simp only [opCall1] at h ⊢
    simp only [hfc] at h ⊢
    cases hr : nubN (idsL as) with
    | cons a l =>
      obtain ⟨y, hy⟩ := reach_pre (ob := ob) 400 (idsOb ob (nubN (idsL as))) (nubN (idsL as))
      simp only [hr] at h hy
      rw [hy] at h
      simp only [List.cons_append, calmH_nil] at h
      obtain ⟨_, h⟩ := cond_some h
      exact absurd h (by simp)
    | nil =>
      have h0 : ∀ ob : Objs, reach ob 400 (idsOb ob []) [] = [] := fun _ => rfl
      simp only [hr, h0, List.map_nil] at h ⊢
      obtain ⟨hb, h⟩ := cond_some h
      have hb' : (clsd T [] [] && Nat.beq (rootsOf Γ.roots f) ([] : List Nat).length) = true := hb
      rw [hb', cond_true]
      simp only [calmH, lNil] at h ⊢
      cases hc : call f (renL (fun j => posN j []) as) [] with
      | none => rw [hc] at h; exact absurd h (by simp)
      | some p =>
        obtain ⟨c, r0, os⟩ := p
        rw [hc] at h
        cases os with
        | cons _ _ => exact absurd h (by simp)
        | nil =>
          cases hri : idsA r0 with
          | cons _ _ => simp only [hri] at h; exact absurd h (by simp)
          | nil =>
            simp only [hri] at h ⊢
            obtain ⟨hs, h⟩ := cond_some h
            have hs' : (sameBoxes T [] [] && c) = true := hs
            rw [hs', cond_true]
            rw [renA_no _ r0 hri] at h ⊢
            exact h
/-- new objects are not felt -/
theorem calm_mono {Γ : Ctx} {call : Handle} {f : FuncId} {o : Oper} {ρ : Operand → AV} {ob : Objs} {r : AV} (h1 : isCalm Γ f o ρ = true) (h2 : isCalm2 o ρ = true) (x : Objs) (h : stepOp Γ (calmH call) f o ρ ob K0 = some r) : stepOp Γ (calmH call) f o ρ (ob ++ x) K0 = some r := by
  obtain ⟨dst, op, type, pos, after, guard⟩ := o
  cases op <;> simp only [stepOp] at h ⊢ <;> (try exact Bool.noConfusion (show false = true from h2)) <;> (try exact h)
  case load t a => exact load_mono x h
  case buildSlice t n ps =>
    simp only [isCalm, Bool.and_eq_true, Bool.not_eq_true'] at h1
    simp only [h1.1] at h ⊢
    rcases opBuildSlice_c2 Γ.P t n (ps.toList.map fun p => (p.1, ρ p.2)) (by simpa [List.all_map] using h1.2) with ⟨a, ha⟩ | ha
    · rw [ha] at h ⊢; exact h
    · rw [ha] at h; exact absurd h (by simp)
  case slice t a lo hi mx =>
    simp only [isCalm, Bool.or_eq_true, Bool.and_eq_true, Bool.not_eq_true'] at h1
    rcases h1 with h1 | ⟨g1, g2, g3, g4⟩
    · simp only [h1.1] at h ⊢
      rw [← slice_same ob (ob ++ x) h1.2]; exact h
    · obtain ⟨e, j, hx⟩ := refA_spec g4
      simp only [g1, hx] at h ⊢
      cases lo with
      | none => cases g2
      | some l => cases mx with
        | some _ => cases g3
        | none => exact sliceOwn_mono x h
  case binOp op t a b yt =>
    simp only [isCalm2, Bool.not_eq_true'] at h2
    rw [h2] at h ⊢
    exact h
  case indexAddr => exact indexAddr_mono x h
  case call c =>
    obtain ⟨callee, args, ats⟩ := c
    cases callee <;> try exact Bool.noConfusion (show false = true from h2)
    case builtin b =>
      cases b <;> try exact Bool.noConfusion (show false = true from h2)
      case len =>
        cases hts : ats.toList with
        | nil => rw [hts] at h; simp [opBuiltin] at h
        | cons t ts =>
          cases has : args.toList.map ρ with
          | nil => rw [hts, has] at h; simp [opBuiltin] at h
          | cons a as =>
            rw [hts, has] at h
            simp only [opBuiltin] at h ⊢
            cases hd : ds Γ.P t <;> rw [hd] at h <;> simp only at h ⊢ <;> try exact h
            cases hn : lenA ob a with
            | none => rw [hn] at h; simp at h
            | some n => rw [lenA_mono x hn]; rw [hn] at h; exact h
    case value g =>
      simp only [isCalm, Bool.and_eq_true] at h1
      exact call_any h1.1 (by simpa [List.all_map] using h1.2) _ h
/-- what a calm operation comes to, with more objects as well -/
theorem calm2_ok (Γ : Ctx) (call : Handle) (f : FuncId) (o : Oper) (ρ : Operand → AV) (ob : Objs) (h : isCalm Γ f o ρ = true) : (∃ a, (∀ (R : Type) (K : AV → Objs → Option R), stepOp Γ (calmH call) f o ρ ob K = K a ob) ∧
    (isCalm2 o ρ = true → ∀ (x : Objs) (R : Type) (K : AV → Objs → Option R), stepOp Γ (calmH call) f o ρ (ob ++ x) K = K a (ob ++ x))) ∨ ∀ (R : Type) (K : AV → Objs → Option R), stepOp Γ (calmH call) f o ρ ob K = none := by
  rcases calm_ok Γ call f o ρ ob h with ⟨a, ha⟩ | hn
  · refine .inl ⟨a, ha, fun h2 x => ?_⟩
    have h0 := calm_mono h h2 x (ha AV K0)
    rcases calm_ok Γ call f o ρ (ob ++ x) h with ⟨b, hb⟩ | hn
    · have := (hb AV K0).symm.trans h0
      have hba : b = a := Option.some.inj this
      subst hba
      exact hb
    · have := (hn AV K0).symm.trans h0
      exact absurd this (by simp)
  · exact .inr hn
/-- what makes an object: one value, the older objects as they were -/
def Mk (ob T : Objs) (F : ∀ R : Type, (AV → Objs → Option R) → Option R) : Prop := (∃ a T', ∀ (R : Type) (K : AV → Objs → Option R), F R K = K a (ob ++ T')) ∨ ∀ (R : Type) (K : AV → Objs → Option R), F R K = none
theorem onNil_mk {ob T T1 T2 : Objs} {a b : AV} (ys : List D) (c : Bool) : Mk ob T fun R K => onNil ys (K a (ob ++ T1)) (bif c then K b (ob ++ T2) else none) := by
  cases ys with
  | nil => exact .inl ⟨a, T1, fun _ _ => rfl⟩
  | cons y r =>
    cases c
    · exact .inr fun _ _ => rfl
    · exact .inl ⟨b, T2, fun _ _ => rfl⟩
theorem append_mk {P : Program} {t : TypeId} {s x : AV} {ob T : Objs} (hs : ∀ e j, s = .ref e j → ob.length ≤ j) : Mk ob T fun R K => opAppend P t s x (ob ++ T) K := by
  unfold opAppend
  cases ds P t <;> try exact .inr fun _ _ => rfl
  rename_i e0
  simp only
  cases fits P e0 (zeroA P depth e0) with
  | false => exact .inr fun _ _ => rfl
  | true =>
    simp only [cond_true]
    cases elems P (underId P e0) (ob ++ T) x with
    | none => exact .inr fun _ _ => rfl
    | some ys =>
      simp only [List.append_assoc]
      cases s <;> try exact .inr fun _ _ => rfl
      case snil => exact onNil_mk (T := T) ys _
      case sl e' c xs =>
        cases c with
        | any => exact .inr fun _ _ => rfl
        | nn => exact .inr fun _ _ => rfl
        | ex => exact onNil_mk (T := T) ys _
        | cl => exact onNil_mk (T := T) ys _
        | nl =>
          cases xs with
          | nil => exact onNil_mk (T := T) ys _
          | cons _ _ => exact .inr fun _ _ => rfl
      case ref e' j =>
        simp only
        have hj := hs e' j rfl
        cases (ob ++ T)[j]? with
        | none => exact .inr fun _ _ => rfl
        | some o => cases o with
          | none => exact .inr fun _ _ => rfl
          | some o => cases o with
            | box => exact .inr fun _ _ => rfl
            | arr e1 xs fz =>
              simp only
              cases Nat.beq e' (underId P e0) && roomB (xs.length + ys.length) (P.bytesOf e0) with
              | false => exact .inr fun _ _ => rfl
              | true => exact .inl ⟨_, T.set (j - ob.length) none ++ [some (.arr e' (xs ++ ys) fz)], fun R K => by simp only [cond_true]; rw [List.set_append_right _ _ hj, List.append_assoc]⟩
/-- what makes an object, or turns one: one value, one list of objects -/
def Mk2 (F : ∀ R : Type, (AV → Objs → Option R) → Option R) : Prop := (∃ a T', ∀ (R : Type) (K : AV → Objs → Option R), F R K = K a T') ∨ ∀ (R : Type) (K : AV → Objs → Option R), F R K = none
theorem Mk.two {ob T : Objs} {F : ∀ R : Type, (AV → Objs → Option R) → Option R} (h : Mk ob T F) : Mk2 F := by
  rcases h with ⟨a, T', h⟩ | h
  · exact .inl ⟨a, _, h⟩
  · exact .inr h
theorem lGet_mk2 {α : Type} (l : List α) (i : Nat) (g : α → Objs) : Mk2 fun R K => lGet l i fun x => K .undef (g x) := by
  unfold lGet
  cases l[i]? with
  | none => exact .inr fun _ _ => rfl
  | some x => exact .inl ⟨_, _, fun _ _ => rfl⟩
theorem store_mk2 (P : Program) (t : TypeId) (a x : AV) (T : Objs) : Mk2 fun R K => opStore P t a x T K := by
  unfold opStore
  cases a <;> try exact .inr fun _ _ => rfl
  case ptr j p u =>
    simp only
    cases Nat.beq u (underId P t) && fits P t x with
    | false => exact .inr fun _ _ => rfl
    | true =>
      simp only [cond_true]
      cases T[j]? with
      | none => exact .inr fun _ _ => rfl
      | some o => cases o with
        | none => exact .inr fun _ _ => rfl
        | some o => cases o with
          | arr => exact .inr fun _ _ => rfl
          | box u' v =>
            simp only
            cases setA P p v x with
            | none => exact .inr fun _ _ => rfl
            | some v' => exact .inl ⟨_, _, fun _ _ => rfl⟩
  case ap j i p u =>
    simp only
    cases Nat.beq u (underId P t) && isTy P t x with
    | false => exact .inr fun _ _ => rfl
    | true =>
      simp only [cond_true]
      cases T[j]? with
      | none => exact .inr fun _ _ => rfl
      | some o => cases o with
        | none => exact .inr fun _ _ => rfl
        | some o => cases o with
          | box => exact .inr fun _ _ => rfl
          | arr e xs fz =>
            cases fz with
            | true => exact .inr fun _ _ => rfl
            | false =>
              cases toD x with
              | none => exact .inr fun _ _ => rfl
              | some y => exact lGet_mk2 _ _ _
theorem store_mk {P : Program} {t : TypeId} {a x : AV} {ob T : Objs} (h : (match a with | .ptr j _ _ => Nat.ble ob.length j | _ => false) = true) : Mk ob T fun R K => opStore P t a x (ob ++ T) K := by
  unfold opStore
  cases a <;> try exact .inr fun _ _ => rfl
  case ptr j p u =>
    have hj : ob.length ≤ j := Nat.le_of_ble_eq_true h
    simp only
    cases Nat.beq u (underId P t) && fits P t x with
    | false => exact .inr fun _ _ => rfl
    | true =>
      simp only [cond_true]
      cases (ob ++ T)[j]? with
      | none => exact .inr fun _ _ => rfl
      | some o => cases o with
        | none => exact .inr fun _ _ => rfl
        | some o => cases o with
          | arr => exact .inr fun _ _ => rfl
          | box u' v =>
            simp only
            cases setA P p v x with
            | none => exact .inr fun _ _ => rfl
            | some v' => exact .inl ⟨_, T.set (j - ob.length) (some (.box u' v')), fun R K => by simp only; rw [List.set_append_right _ _ hj]⟩
  case ap j i p u => exact absurd h (by simp)
/-- any call: one value, one list of objects -/
theorem call1_mk2 (Γ : Ctx) (call : Handle) (t : TypeId) (f : FuncId) (all : List AV) (T : Objs) : Mk2 fun R K => opCall1 Γ call t f all T K := by
  simp only [opCall1]
  generalize (frzC (memF f Γ.refs) all T).1 = args
  generalize (frzC (memF f Γ.refs) all T).2 = ob1
  cases clsd ob1 (reach ob1 400 (idsOb ob1 (nubN (idsL args))) (nubN (idsL args))) (nubN (idsL args)) && Nat.beq (rootsOf Γ.roots f) (nubN (idsL args)).length with
  | false => exact .inr fun _ _ => rfl
  | true =>
    simp only [cond_true]
    cases call f (renL (fun j => posN j (reach ob1 400 (idsOb ob1 (nubN (idsL args))) (nubN (idsL args)))) args) ((reach ob1 400 (idsOb ob1 (nubN (idsL args))) (nubN (idsL args))).map fun j => renO (fun j => posN j (reach ob1 400 (idsOb ob1 (nubN (idsL args))) (nubN (idsL args)))) (ob1.getD j none)) with
    | none => exact .inr fun _ _ => rfl
    | some p =>
      obtain ⟨c, r, obs⟩ := p
      simp only
      cases sameBoxes ob1 (nubN (idsL args)) obs && c with
      | false => exact .inr fun _ _ => rfl
      | true =>
        simp only [cond_true]
        rcases openR_a Γ.P t (renA (backN (nubN (idsL args)) ob1.length) r) with ⟨a, ha⟩ | hn
        · exact .inl ⟨a, _, fun R K => ha R _⟩
        · exact .inr fun R K => hn R _
theorem call_mk2 (Γ : Ctx) (call : Handle) (t : TypeId) (g : AV) (as : List AV) (T : Objs) : Mk2 fun R K => opCall Γ call t g as T K := by
  unfold opCall
  cases g <;> try exact .inr fun _ _ => rfl
  case fn f caps => exact call1_mk2 Γ call t f (as ++ caps) T
  case hp k f j p u =>
    cases k with
    | true => exact .inr fun _ _ => rfl
    | false => exact call1_mk2 Γ call t f (.ptr j p u :: as) T
/-- a call that is handed no objects: the older ones as they were -/
theorem call_mk {Γ : Ctx} {call : Handle} {t : TypeId} {g : AV} {as : List AV} {ob T : Objs} (hg : noCaps g = true) (ha : (as.all noRef) = true) (hi : idsL as = []) : Mk ob T fun R K => opCall Γ call t g as (ob ++ T) K := by
  unfold opCall
  cases g <;> try exact Bool.noConfusion (show false = true from hg)
  rename_i f caps
  cases caps with
  | cons _ _ => exact Bool.noConfusion (show false = true from hg)
  | nil =>
    have hfc : ∀ ob : Objs, frzC (memF f Γ.refs) (as ++ []) ob = (as, ob) := fun ob => by rw [List.append_nil]; cases memF f Γ.refs <;> simp only [frzC, frzL_noRef ha]
    have h0 : ∀ ob : Objs, reach ob 400 (idsOb ob []) [] = [] := fun _ => rfl
    simp only [opCall1]
    simp only [hfc, hi, nubN, h0, List.map_nil]
    cases clsd (ob ++ T) [] [] && Nat.beq (rootsOf Γ.roots f) ([] : List Nat).length with
    | false => exact .inr fun _ _ => rfl
    | true =>
      simp only [cond_true]
      cases call f (renL (fun j => posN j []) as) [] with
      | none => exact .inr fun _ _ => rfl
      | some p =>
        obtain ⟨c, r, obs⟩ := p
        simp only
        cases sameBoxes (ob ++ T) [] obs && c with
        | false => exact .inr fun _ _ => rfl
        | true =>
          simp only [cond_true]
          rcases openR_a Γ.P t (renA (backN [] (ob ++ T).length) r) with ⟨a, ha⟩ | hn
          · refine .inl ⟨a, T ++ (obs.drop 0).map (renO (backN [] (ob ++ T).length)), fun R K => ?_⟩
            have h1 : ∀ os : Objs, putRoots (backN [] (ob ++ T).length) (killAll (ob ++ T) []) [] os = ob ++ T := fun os => by cases os <;> rfl
            rw [ha, h1, List.append_assoc]
            rfl
          · exact .inr fun R K => hn R _
theorem storeZ_mk2 (P : Program) (z : Bool) (t : TypeId) (a x : AV) (T : Objs) : Mk2 fun R K => opStoreZ P z t a x T K := by
  cases z with
  | false => exact store_mk2 P t a x T
  | true => exact store_mk2 P t a (frzV P t x T).1 (frzV P t x T).2
theorem frzV_no {P : Program} {t : TypeId} {x : AV} (h : noRowV x = true) (T : Objs) : frzV P t x T = ((frzV P t x []).1, T) := by
  cases x <;> first | rfl | exact Bool.noConfusion (show false = true from h)
theorem storeZ_mk {P : Program} {z : Bool} {t : TypeId} {a x : AV} {ob T : Objs} (h : (match a with | .ptr j _ _ => Nat.ble ob.length j && noRowV x | _ => false) = true) : Mk ob T fun R K => opStoreZ P z t a x (ob ++ T) K := by
  have key : ∀ a : AV, (match a with | .ptr j _ _ => Nat.ble ob.length j && noRowV x | _ => false) = true → (match a with | .ptr j _ _ => Nat.ble ob.length j | _ => false) = true ∧ noRowV x = true := by
    intro a h
    cases a <;> first | exact Bool.noConfusion (show false = true from h) | exact Bool.and_eq_true_iff.1 h
  obtain ⟨h1, h2⟩ := key a h
  cases z with
  | false => exact store_mk h1
  | true =>
    have : (fun (R : Type) (K : AV → Objs → Option R) => opStoreZ P true t a x (ob ++ T) K) = fun R K => opStore P t a (frzV P t x []).1 (ob ++ T) K := by
      funext R K
      show (match frzV P t x (ob ++ T) with | (x', ob') => opStore P t a x' ob' K) = _
      rw [frzV_no h2]
    rw [this]
    exact store_mk h1
theorem mk_new (Γ : Ctx) (call : Handle) (f : FuncId) (o : Oper) (ρ : Operand → AV) (ob T : Objs) (h1 : isMk Γ o = true) (h2 : mkFresh ob.length o ρ = true) : Mk ob T fun R K => stepOp Γ call f o ρ (ob ++ T) K := by
  obtain ⟨dst, op, type, pos, after, guard⟩ := o
  cases op <;> (try (cases guard <;> exact Bool.noConfusion (show false = true from h1)))
  case store t a x =>
    cases guard with
    | some _ => exact Bool.noConfusion (show false = true from h1)
    | none =>
      simp only [stepOp]
      simp only [mkFresh] at h2
      exact storeZ_mk h2
  case alloc e =>
    simp only [stepOp]
    cases fits Γ.P e (zeroA Γ.P depth e) with
    | false => exact .inr fun _ _ => rfl
    | true => exact .inl ⟨_, T ++ [some (.box (underId Γ.P e) (zeroA Γ.P depth e))], fun R K => by simp only [cond_true, List.append_assoc]; rfl⟩
  case call c =>
    obtain ⟨callee, args, ats⟩ := c
    cases guard with
    | some _ => exact Bool.noConfusion (show false = true from h1)
    | none =>
    cases callee <;> try exact Bool.noConfusion (show false = true from h1)
    case value g =>
      simp only [mkFresh, Bool.and_eq_true] at h2
      exact call_mk h2.1 h2.2.1 (List.isEmpty_iff.1 h2.2.2)
    rename_i b
    cases b <;> try exact Bool.noConfusion (show false = true from h1)
    case append =>
      simp only [stepOp]
      simp only [mkFresh] at h2
      cases hts : ats.toList with
      | nil => exact .inr fun _ _ => rfl
      | cons t ts => cases ts with
        | nil => exact .inr fun _ _ => rfl
        | cons t' ts => cases ts with
          | cons _ _ => exact .inr fun _ _ => rfl
          | nil =>
            cases has : args.toList.map ρ with
            | nil => exact .inr fun _ _ => rfl
            | cons s as => cases as with
              | nil => exact .inr fun _ _ => rfl
              | cons x as => cases as with
                | cons _ _ => exact .inr fun _ _ => rfl
                | nil =>
                  have hs : ∀ e j, s = .ref e j → ob.length ≤ j := fun e j he => by
                    subst he
                    rw [has] at h2
                    exact Nat.le_of_ble_eq_true h2
                  simp only [opBuiltin]
                  cases ds Γ.P t' <;> first | exact .inr fun _ _ => rfl | exact append_mk hs
    case copy =>
      simp only [stepOp]
      simp only [mkFresh] at h2
      cases hts : ats.toList with
      | nil => exact .inr fun _ _ => rfl
      | cons t ts => cases ts with
        | nil => exact .inr fun _ _ => rfl
        | cons t' ts => cases ts with
          | cons _ _ => exact .inr fun _ _ => rfl
          | nil =>
            cases has : args.toList.map ρ with
            | nil => exact .inr fun _ _ => rfl
            | cons s as => cases as with
              | nil => exact .inr fun _ _ => rfl
              | cons x as => cases as with
                | cons _ _ => exact .inr fun _ _ => rfl
                | nil =>
                  rw [has] at h2
                  simp only [opBuiltin, opCopy]
                  cases ds Γ.P t <;> try exact .inr fun _ _ => rfl
                  rename_i e0
                  simp only
                  cases elems Γ.P (underId Γ.P e0) (ob ++ T) x with
                  | none => exact .inr fun _ _ => rfl
                  | some ys => cases s <;> first | exact .inr fun _ _ => rfl | exact Bool.noConfusion (show false = true from h2)
theorem copy_mk2 (P : Program) (t : TypeId) (d x : AV) (T : Objs) : Mk2 fun R K => opCopy P t d x T K := by
  unfold opCopy
  cases ds P t <;> try exact .inr fun _ _ => rfl
  rename_i e0
  simp only
  cases elems P (underId P e0) T x with
  | none => exact .inr fun _ _ => rfl
  | some ys =>
    cases d <;> try exact .inr fun _ _ => rfl
    rename_i e j lo n
    simp only
    cases Nat.beq e (underId P e0) with
    | false => exact .inr fun _ _ => rfl
    | true =>
      simp only [cond_true]
      cases T[j]? with
      | none => exact .inr fun _ _ => rfl
      | some o => cases o with
        | none => exact .inr fun _ _ => rfl
        | some o => cases o with
          | arr e' xs fz => cases fz with
            | true => exact .inr fun _ _ => rfl
            | false => exact .inl ⟨_, _, fun _ _ => rfl⟩
          | box tb v => cases v <;> try exact .inr fun _ _ => rfl
                        rename_i u z
                        cases z <;> first | exact .inr fun _ _ => rfl | exact .inl ⟨_, _, fun _ _ => rfl⟩
theorem append_mk2 (P : Program) (t : TypeId) (s x : AV) (T : Objs) : Mk2 fun R K => opAppend P t s x T K := by
  unfold opAppend
  cases ds P t <;> try exact .inr fun _ _ => rfl
  rename_i e0
  simp only
  cases fits P e0 (zeroA P depth e0) with
  | false => exact .inr fun _ _ => rfl
  | true =>
    simp only [cond_true]
    cases elems P (underId P e0) T x with
    | none => exact .inr fun _ _ => rfl
    | some ys =>
      have two : ∀ (a b : AV) (T1 T2 : Objs) (c : Bool), Mk2 fun R K => onNil ys (K a T1) (bif c then K b T2 else none) := fun a b T1 T2 c => by
        cases ys with
        | nil => exact .inl ⟨a, T1, fun _ _ => rfl⟩
        | cons y r =>
          cases c
          · exact .inr fun _ _ => rfl
          · exact .inl ⟨b, T2, fun _ _ => rfl⟩
      cases s <;> try exact .inr fun _ _ => rfl
      case snil => exact two _ _ _ _ _
      case sl e' c xs =>
        cases c with
        | any => exact .inr fun _ _ => rfl
        | nn => exact .inr fun _ _ => rfl
        | ex => exact two _ _ _ _ _
        | cl => exact two _ _ _ _ _
        | nl =>
          cases xs with
          | nil => exact two _ _ _ _ _
          | cons _ _ => exact .inr fun _ _ => rfl
      case ref e' j =>
        simp only
        cases T[j]? with
        | none => exact .inr fun _ _ => rfl
        | some o => cases o with
          | none => exact .inr fun _ _ => rfl
          | some o => cases o with
            | box => exact .inr fun _ _ => rfl
            | arr e1 xs fz =>
              simp only
              cases Nat.beq e' (underId P e0) && roomB (xs.length + ys.length) (P.bytesOf e0) with
              | false => exact .inr fun _ _ => rfl
              | true => exact .inl ⟨_, _, fun R K => rfl⟩
theorem mk_ok (Γ : Ctx) (call : Handle) (f : FuncId) (o : Oper) (ρ : Operand → AV) (T : Objs) (h1 : isMk Γ o = true) : Mk2 fun R K => stepOp Γ call f o ρ T K := by
  obtain ⟨dst, op, type, pos, after, guard⟩ := o
  cases op <;> (try (cases guard <;> exact Bool.noConfusion (show false = true from h1)))
  case store t a x => exact storeZ_mk2 _ _ _ _ _ _
  case alloc e =>
    simp only [stepOp]
    cases fits Γ.P e (zeroA Γ.P depth e) with
    | false => exact .inr fun _ _ => rfl
    | true => exact .inl ⟨_, _, fun R K => rfl⟩
  case call c =>
    obtain ⟨callee, args, ats⟩ := c
    cases guard with
    | some _ => exact Bool.noConfusion (show false = true from h1)
    | none =>
    cases callee <;> try exact Bool.noConfusion (show false = true from h1)
    case value g => exact call_mk2 _ _ _ _ _ _
    rename_i b
    cases b <;> try exact Bool.noConfusion (show false = true from h1)
    all_goals
      simp only [stepOp]
      cases hts : ats.toList with
      | nil => exact .inr fun _ _ => rfl
      | cons t ts => cases ts with
        | nil => exact .inr fun _ _ => rfl
        | cons t' ts => cases ts with
          | cons _ _ => exact .inr fun _ _ => rfl
          | nil =>
            cases has : args.toList.map ρ with
            | nil => exact .inr fun _ _ => rfl
            | cons s as => cases as with
              | nil => exact .inr fun _ _ => rfl
              | cons x as => cases as with
                | cons _ _ => exact .inr fun _ _ => rfl
                | nil =>
                  simp only [opBuiltin]
                  first | exact copy_mk2 _ _ _ _ _ | (cases ds Γ.P t' <;> first | exact .inr fun _ _ => rfl | exact append_mk2 _ _ _ _ _)
/-- an operation on temporaries alone does not feel objects -/
theorem pure_any {Γ : Ctx} {call : Handle} {f : FuncId} {o : Oper} {ρ : Operand → AV} {ob : Objs} {a : AV} (h1 : pureK o = true) (h2 : isCalm2 o ρ = true) (h : ∀ (R : Type) (K : AV → Objs → Option R), stepOp Γ (calmH call) f o ρ ob K = K a ob) (T : Objs) :
    ∀ (R : Type) (K : AV → Objs → Option R), stepOp Γ (calmH call) f o ρ T K = K a T := by
  have h0 : stepOp Γ (calmH call) f o ρ ob K0 = some a := h AV K0
  have hc : isCalm Γ f o ρ = true := by
    obtain ⟨dst, op, type, pos, after, guard⟩ := o
    cases op <;> first | rfl | exact Bool.noConfusion (show false = true from h1)
  have h0' : stepOp Γ (calmH call) f o ρ T K0 = some a := by
    rw [← h0]
    obtain ⟨dst, op, type, pos, after, guard⟩ := o
    cases op <;> simp only [stepOp] <;> (try exact Bool.noConfusion (show false = true from h1)) <;> (try rfl)
    case binOp op t a b yt =>
      simp only [isCalm2, Bool.not_eq_true'] at h2
      rw [h2]
      rfl
  intro R K
  rcases calm_ok Γ call f o ρ T hc with ⟨b, hb⟩ | hn
  · have := (hb AV K0).symm.trans h0'
    have hba : b = a := Option.some.inj this
    subst hba
    exact hb R K
  · have := (hn AV K0).symm.trans h0'
    exact absurd this (by simp)
/-- what is free of objects -/
theorem free_any {Γ : Ctx} {call : Handle} {f : FuncId} {o : Oper} {ρ : Operand → AV} {ob : Objs} {a : AV} (h1 : isFree o ρ = true) (hc : isCalm Γ f o ρ = true) (h : ∀ (R : Type) (K : AV → Objs → Option R), stepOp Γ (calmH call) f o ρ ob K = K a ob) (T : Objs) :
    ∀ (R : Type) (K : AV → Objs → Option R), stepOp Γ (calmH call) f o ρ T K = K a T := by
  have h0 : stepOp Γ (calmH call) f o ρ ob K0 = some a := h AV K0
  have h0' : stepOp Γ (calmH call) f o ρ T K0 = some a := by
    obtain ⟨dst, op, type, pos, after, guard⟩ := o
    cases op <;> (try exact Bool.noConfusion (show false = true from h1)) <;> simp only [stepOp] at h0 ⊢
    case load t x =>
      simp only [isFree] at h1
      cases hx : ρ x <;> rw [hx] at h1 <;> (try exact Bool.noConfusion (show false = true from h1))
      rw [hx] at h0
      exact h0
    case buildSlice t n ps =>
      simp only [isCalm, Bool.and_eq_true, Bool.not_eq_true'] at hc
      simp only [hc.1] at h0 ⊢
      rcases opBuildSlice_c2 Γ.P t n (ps.toList.map fun p => (p.1, ρ p.2)) (by simpa [List.all_map] using hc.2) with ⟨a, ha⟩ | ha
      · rw [ha] at h0 ⊢; exact h0
      · rw [ha] at h0; exact absurd h0 (by simp)
    case slice t x lo hi mx =>
      have hn : noObj (ρ x) = true := h1
      simp only [isCalm, Bool.or_eq_true, Bool.and_eq_true, Bool.not_eq_true'] at hc
      rcases hc with hc | ⟨_, _, _, g4⟩
      · simp only [hc.1] at h0 ⊢
        rw [← slice_same ob T hc.2]; exact h0
      · obtain ⟨e, j, hx⟩ := refA_spec g4
        rw [hx] at hn
        cases hn
    case call c =>
      obtain ⟨callee, args, ats⟩ := c
      cases callee <;> try exact Bool.noConfusion (show false = true from h1)
      case value g =>
        simp only [isCalm, Bool.and_eq_true] at hc
        exact call_any hc.1 (by simpa [List.all_map] using hc.2) T h0
  intro R K
  rcases calm_ok Γ call f o ρ T hc with ⟨b, hb⟩ | hn
  · have := (hb AV K0).symm.trans h0'
    have hba : b = a := Option.some.inj this
    subst hba
    exact hb R K
  · have := (hn AV K0).symm.trans h0'
    exact absurd this (by simp)
end Go.Proofs.Ytbdekjlnnbjicaa.V

/- Regions whose order is open: whatever the order, calm operations come to the same. -/
namespace Go.Proofs.Ytbdekjlnnbjicaa.V
open Go
set_option linter.unusedVariables false
set_option linter.unusedSimpArgs false

section
variable {Γ : Ctx} {w0 : World} {S0 : Addr → Prop} {X : XB} {w w' : World} {S S' : Addr → Prop} {σ σ' : Loc} {ob ob' : Objs} {R : Type}

/-! ### an operation looks at its operands alone -/
theorem stepOp_congr {call : Handle} {f : FuncId} {o : Oper} {ρ ρ' : Operand → AV} (h : ∀ x ∈ o.op.operands, ρ x = ρ' x) (K : AV → Objs → Option R) :
    stepOp Γ call f o ρ ob K = stepOp Γ call f o ρ' ob K := by
  obtain ⟨dst, op, type, pos, after, guard⟩ := o
  have pairs : ∀ ps : Array (Nat × Operand), (∀ x ∈ ps.map (·.2), ρ x = ρ' x) →
      (ps.toList.map fun p => (p.1, ρ p.2)) = (ps.toList.map fun p => (p.1, ρ' p.2)) := fun ps hp => by
    refine List.map_congr_left fun p hm => ?_
    rw [hp p.2 (Array.mem_map.2 ⟨p, by simpa using hm, rfl⟩)]
  cases op <;> simp only [Op.operands] at h <;> simp only [stepOp]
  case makeFunc fn first caps =>
    have hc : caps.toList.map ρ = caps.toList.map ρ' := List.map_congr_left fun x hx => h x (by simp; exact .inr (by simpa using hx))
    rw [hc]
    cases fn <;> try rfl
    cases hl : first.toList with
    | nil => rfl
    | cons x r =>
      cases r with
      | cons _ _ => rfl
      | nil =>
        have hx : ρ x = ρ' x := h x (by
          have : x ∈ first := by rw [← Array.mem_toList_iff, hl]; simp
          simp; exact .inl this)
        simp only [hx]
  case build t ps => rw [pairs ps fun x hx => h x (by simpa using hx)]
  case buildSlice t n ps => rw [pairs ps fun x hx => h x (by simpa using hx)]
  case call c =>
    have hargs : c.args.toList.map ρ = c.args.toList.map ρ' := List.map_congr_left fun x hx => h x (by simp [Call.operands]; exact .inr (by simpa using hx))
    simp only [hargs]
    cases hc : c.callee with
    | value g => have hf : ρ g = ρ' g := h g (by simp [Call.operands, hc]); simp only [hf]
    | invoke x m => have hf : ρ x = ρ' x := h x (by simp [Call.operands, hc]); simp only [hf]
    | builtin b => rfl
  case slice t x lo hi mx => cases lo <;> cases hi <;> cases mx <;> simp_all
  all_goals (first | rfl | (simp_all; done))

def evoE (Γ : Ctx) (E : Nat → AV) : Operand → AV
  | .tmp t => E t
  | .const v => ofConst v
  | .global g => match Γ.G g with
    | some (t, x) => .vp t x
    | none => .undef
  | .func f => .fn f []
theorem evo_E (tm : Tm) : evo Γ tm = evoE Γ (get tm) := by
  funext x; cases x <;> rfl
def upd (E : Nat → AV) (dst : Option Nat) (v : AV) : Nat → AV := fun t => if dst = some t then v else E t
theorem put_upd (dst : Option Nat) (v : AV) (tm : Tm) : get (V.put dst v tm) = upd (get tm) dst v := by
  funext t; rw [get_put]; rfl

/-- what a calm operation does, in the order of the text -/
structure Good (Γ : Ctx) (call : Handle) (f : FuncId) (lk al : Bool) (ea : List Nat) (ops : List Oper) (ob : Objs) (o : Oper) (E : Nat → AV) (av : AV) : Prop where
  is : ∃ b : Bool, ((o.guard = none ∧ b = true) ∨ (∃ j want d x, o.guard = some (j, want) ∧ (ops[j]?).bind (·.dst) = some d ∧ E d = .b x ∧ b = (want == x)) ∨ ∃ j want d, o.guard = some (j, want) ∧ (ops[j]?).bind (·.dst) = some d ∧ E d = .tuple [] ∧ b = false) ∧
    (b = true → (∀ (R : Type) (K : AV → Objs → Option R), stepOp Γ (calmH call) f o (evoE Γ E) ob K = K av ob) ∧ (al = true → isCalm2 o (evoE Γ E) = true ∧ ∀ (x : Objs) (R : Type) (K : AV → Objs → Option R), stepOp Γ (calmH call) f o (evoE Γ E) (ob ++ x) K = K av (ob ++ x)) ∧ (lk = true → pureK o = true ∨ isIn ea o.dst = true ∨ (isFree o (evoE Γ E) = true ∧ isCalm Γ f o (evoE Γ E) = true))) ∧ (b = false → av = .tuple [])
theorem guard_E {ops : List Oper} {o : Oper} {tm : Tm} {K : Bool → Tm → Option R} {r : R} (hs : guardK ops o tm K = some r) :
    ∃ b tm', K b tm' = some r ∧ get tm' = get tm ∧ ((o.guard = none ∧ b = true) ∨ (∃ j want d x, o.guard = some (j, want) ∧ (ops[j]?).bind (·.dst) = some d ∧ get tm d = .b x ∧ b = (want == x)) ∨ ∃ j want d, o.guard = some (j, want) ∧ (ops[j]?).bind (·.dst) = some d ∧ get tm d = .tuple [] ∧ b = false) := by
  unfold guardK at hs
  split at hs
  · rename_i hg; exact ⟨true, tm, hs, rfl, .inl ⟨hg, rfl⟩⟩
  · rename_i j want hg
    split at hs
    · exact absurd hs (by simp)
    · rename_i d hd
      split at hs
      · rename_i x hx
        have hget : ∀ y, y = x → get ((d, .b y) :: tm) = get tm := by
          rintro y rfl
          have := put_upd (some d) (.b y) tm
          simp only [V.put] at this
          rw [this]
          funext t
          simp only [upd]
          by_cases h : some d = some t
          · rw [if_pos h]; cases h; exact hx.symm
          · rw [if_neg h]
        rcases cond_cases hs with ⟨rfl, hs⟩ | ⟨rfl, hs⟩
        · exact ⟨_, _, hs, hget _ rfl, .inr (.inl ⟨j, want, d, true, hg, hd, hx, rfl⟩)⟩
        · exact ⟨_, _, hs, hget _ rfl, .inr (.inl ⟨j, want, d, false, hg, hd, hx, rfl⟩)⟩
      · rename_i hx
        exact ⟨false, tm, hs, rfl, .inr (.inr ⟨j, want, d, hg, hd, hx, rfl⟩)⟩
      · exact absurd hs (by simp)
/-- what an operation does that makes an object -/
def Makes (Γ : Ctx) (call : Handle) (f : FuncId) (lk al : Bool) (ob : Objs) (o : Oper) (E : Nat → AV) (T T' : Objs) (av : AV) : Prop :=
  isMk Γ o = true ∧ (al = true ∧ (lk || mkFresh ob.length o (evoE Γ E)) = true) ∧ ∀ (R : Type) (K : AV → Objs → Option R), stepOp Γ call f o (evoE Γ E) T K = K av T'
theorem mk_guard {o : Oper} (h : isMk Γ o = true) : o.guard = none := by
  obtain ⟨dst, op, type, pos, after, guard⟩ := o
  cases guard with
  | none => rfl
  | some p => cases op <;> exact Bool.noConfusion (show false = true from h)
theorem plan_of {call : Handle} {f : FuncId} {lk al : Bool} {ea : List Nat} {ops : List Oper} {K : St → Option R} {r : R} : ∀ (l : List Oper) (T : Objs) (tm : Tm), stepOpsD Γ call f lk al ea ops l T ⟨tm, ob⟩ K = some r →
    ∃ (avs : Nat → AV) (Es : Nat → Nat → AV) (Ts : Nat → Objs) (tm' : Tm), Es 0 = get tm ∧ Ts 0 = T ∧ (∀ i o, l[i]? = some o → (Makes Γ call f lk al ob o (Es i) (Ts i) (Ts (i + 1)) (avs i) ∨ (isMk Γ o = false ∧ Ts (i + 1) = Ts i ∧ Good Γ call f lk al ea ops ob o (Es i) (avs i))) ∧ Es (i + 1) = upd (Es i) o.dst (avs i)) ∧
      K ⟨tm', Ts l.length⟩ = some r ∧ get tm' = Es l.length
  | [], T, tm, h => ⟨fun _ => .undef, fun _ => get tm, fun _ => T, tm, rfl, rfl, fun i o hi => (by simp at hi), h, rfl⟩
  | o :: l, T, tm, h => by
    have cons : ∀ (av : AV) (T' : Objs) (tm1 : Tm), get tm1 = get tm → (Makes Γ call f lk al ob o (get tm) T T' av ∨ (isMk Γ o = false ∧ T' = T ∧ Good Γ call f lk al ea ops ob o (get tm) av)) → stepOpsD Γ call f lk al ea ops l T' ⟨V.put o.dst av tm1, ob⟩ K = some r →
        ∃ (avs : Nat → AV) (Es : Nat → Nat → AV) (Ts : Nat → Objs) (tm' : Tm), Es 0 = get tm ∧ Ts 0 = T ∧ (∀ i o', (o :: l)[i]? = some o' → (Makes Γ call f lk al ob o' (Es i) (Ts i) (Ts (i + 1)) (avs i) ∨ (isMk Γ o' = false ∧ Ts (i + 1) = Ts i ∧ Good Γ call f lk al ea ops ob o' (Es i) (avs i))) ∧ Es (i + 1) = upd (Es i) o'.dst (avs i)) ∧
          K ⟨tm', Ts (o :: l).length⟩ = some r ∧ get tm' = Es (o :: l).length := by
      intro av T' tm1 hget h1 h3
      obtain ⟨avs, Es, Ts, tm', g1, g0, g2, g5, g6⟩ := plan_of l _ _ h3
      refine ⟨fun i => match i with | 0 => av | i + 1 => avs i, fun i => match i with | 0 => get tm | i + 1 => Es i, fun i => match i with | 0 => T | i + 1 => Ts i, tm', rfl, rfl, fun i o' hi => ?_, g5, g6⟩
      cases i with
      | zero =>
        simp only [List.getElem?_cons_zero, Option.some.injEq] at hi
        subst hi
        refine ⟨?_, by simp only [g1, put_upd, hget]⟩
        simp only [g0]
        exact h1
      | succ i => exact g2 i o' (by simpa using hi)
    simp only [stepOpsD] at h
    rcases cond_cases h with ⟨hm, h⟩ | ⟨hm, h⟩
    · obtain ⟨hc, h⟩ := cond_some h
      simp only [Bool.and_eq_true] at hc
      rw [evo_E] at hc h
      rcases mk_ok Γ call f o (evoE Γ (get tm)) T hm with ⟨av, T', hav⟩ | hav
      · have hav : ∀ (R : Type) (K : AV → Objs → Option R), stepOp Γ call f o (evoE Γ (get tm)) T K = K av T' := hav
        rw [hav] at h
        exact cons av T' tm rfl (.inl ⟨hm, hc, hav⟩) h
      · have hav : ∀ (R : Type) (K : AV → Objs → Option R), stepOp Γ call f o (evoE Γ (get tm)) T K = none := hav
        rw [hav] at h
        exact absurd h (by simp)
    · obtain ⟨b, tm1, h, hget, hw⟩ := guard_E h
      rcases cond_cases h with ⟨rfl, h⟩ | ⟨rfl, h⟩
      · obtain ⟨hc, h⟩ := cond_some h
        simp only [Bool.and_eq_true, Bool.or_eq_true, Bool.not_eq_true'] at hc
        have hev : evo Γ tm1 = evoE Γ (get tm) := by rw [evo_E, hget]
        rw [hev] at hc h
        rcases calm2_ok Γ call f o (evoE Γ (get tm)) ob hc.1 with ⟨av, hav, hav2⟩ | hav
        · refine cons av T tm1 hget (.inr ⟨hm, rfl, ⟨true, hw, fun _ => ⟨hav, fun hal => ?_, fun hlk => ?_⟩, fun h => by simp at h⟩⟩) (by have := hav R (fun v ob' => stepOpsD Γ call f lk al ea ops l T ⟨V.put o.dst v tm1, ob'⟩ K); rw [← this]; exact h)
          · rcases hc.2.1 with h0 | h0
            · rw [hal] at h0; cases h0
            · exact ⟨h0, hav2 h0⟩
          · rcases hc.2.2 with h0 | h0 | h0 | h0
            · rw [hlk] at h0; cases h0
            · exact .inl h0
            · exact .inr (.inl h0)
            · exact .inr (.inr ⟨h0, hc.1⟩)
        · have := hav R (fun v ob' => stepOpsD Γ call f lk al ea ops l T ⟨V.put o.dst v tm1, ob'⟩ K)
          rw [this] at h
          exact absurd h (by simp)
      · exact cons (.tuple []) T tm1 hget (.inr ⟨hm, rfl, ⟨false, hw, fun h => by simp at h, fun _ => rfl⟩⟩) h
/-- nothing is made between -/
theorem same_T {l : List Oper} {Ts : Nat → Objs} (h : ∀ i o, l[i]? = some o → isMk Γ o = false → Ts (i + 1) = Ts i) : ∀ (n j : Nat), n ≤ j → j ≤ l.length → (∀ i o, n ≤ i → i < j → l[i]? = some o → isMk Γ o = false) → Ts j = Ts n
  | n, 0, hn, _, _ => by rw [show n = 0 by omega]
  | n, j + 1, hn, hj, hno => by
    rcases Nat.lt_or_ge j n with hl | hl
    · rw [show n = j + 1 by omega]
    · obtain ⟨o, ho⟩ : ∃ o, l[j]? = some o := ⟨_, List.getElem?_eq_getElem (by omega)⟩
      rw [h j o ho (hno j o hl (Nat.lt_succ_self j) ho)]
      exact same_T h n j hl (by omega) fun i o h1 h2 => hno i o h1 (by omega)
theorem nodup_get {l : List Oper} : (dstsL l).Nodup → ∀ {i j : Nat} {o p : Oper} {t : Nat}, l[i]? = some o → l[j]? = some p → o.dst = some t → p.dst = some t → i = j := by
  induction l with
  | nil => intro _ i j o p t hi; simp at hi
  | cons a l ih =>
    intro hn i j o p t hi hj ho hp
    have hmem : ∀ {k : Nat} {q : Oper}, l[k]? = some q → q.dst = some t → t ∈ dstsL l := fun hk hq => List.mem_filterMap.2 ⟨_, List.mem_of_getElem? hk, hq⟩
    have hl : (dstsL l).Nodup := by
      unfold dstsL at hn ⊢
      cases ha : a.dst with
      | none => rw [List.filterMap_cons_none ha] at hn; exact hn
      | some d => rw [List.filterMap_cons_some ha] at hn; exact (List.nodup_cons.1 hn).2
    have hhead : a.dst = some t → t ∉ dstsL l := fun ha => by
      unfold dstsL at hn ⊢
      rw [List.filterMap_cons_some ha] at hn
      exact (List.nodup_cons.1 hn).1
    cases i with
    | zero =>
      cases j with
      | zero => rfl
      | succ j =>
        simp only [List.getElem?_cons_zero, Option.some.injEq] at hi
        subst hi
        exact absurd (hmem (by simpa using hj) hp) (hhead ho)
    | succ i =>
      cases j with
      | zero =>
        simp only [List.getElem?_cons_zero, Option.some.injEq] at hj
        subst hj
        exact absurd (hmem (by simpa using hi) ho) (hhead hp)
      | succ j =>
        have : i = j := ih hl (by simpa using hi) (by simpa using hj) ho hp
        rw [this]

theorem es_spec {l : List Oper} (hn : (dstsL l).Nodup) {avs : Nat → AV} {Es : Nat → Nat → AV} (h : ∀ i o, l[i]? = some o → Es (i + 1) = upd (Es i) o.dst (avs i)) (t : Nat) : ∀ i, i ≤ l.length →
    (∀ j o, j < i → l[j]? = some o → o.dst = some t → Es i t = avs j) ∧ ((∀ j o, j < i → l[j]? = some o → o.dst ≠ some t) → Es i t = Es 0 t)
  | 0, _ => ⟨fun j o hj => by omega, fun _ => rfl⟩
  | i + 1, hi => by
    obtain ⟨o, ho⟩ : ∃ o, l[i]? = some o := ⟨_, List.getElem?_eq_getElem (by omega)⟩
    obtain ⟨g1, g2⟩ := es_spec hn h t i (by omega)
    rw [h i o ho]
    refine ⟨fun j p hj hp hd => ?_, fun hno => ?_⟩
    · simp only [upd]
      by_cases hc : o.dst = some t
      · rw [if_pos hc, nodup_get hn ho hp hc hd]
      · rw [if_neg hc]
        refine g1 j p ?_ hp hd
        rcases Nat.lt_or_ge j i with hl | hl
        · exact hl
        · have : j = i := by omega
          subst this
          rw [ho] at hp; cases hp
          exact absurd hd hc
    · simp only [upd]
      rw [if_neg (hno i o (by omega) ho)]
      exact g2 fun j p hj hp => hno j p (by omega) hp

/-! ### the check of a region -/
theorem fold_bit {A : List Nat} {j : Nat} : ∀ (es : List Edge) (m : Nat), (es.foldl (fun m e => bif Region.binds .any e then Nat.lor (Nat.lor m (Nat.shiftLeft 1 e.on)) (A.getD e.on 0) else m) m).testBit j = true →
    m.testBit j = true ∨ ∃ e ∈ es, Region.binds .any e = true ∧ (e.on = j ∨ (A.getD e.on 0).testBit j = true)
  | [], m, h => .inl h
  | e :: es, m, h => by
    simp only [List.foldl_cons] at h
    rcases fold_bit es _ h with h | ⟨e', h1, h2⟩
    · cases hb : Region.binds .any e with
      | false => rw [hb] at h; exact .inl h
      | true =>
        rw [hb] at h
        simp only [cond_true] at h
        have h' : ((m ||| (1 <<< e.on)) ||| A.getD e.on 0).testBit j = true := h
        rw [Nat.testBit_or, Nat.testBit_or] at h'
        simp only [Bool.or_eq_true] at h'
        rcases h' with (h' | h') | h'
        · exact .inl h'
        · rw [Nat.one_shiftLeft, Nat.testBit_two_pow] at h'
          exact .inr ⟨e, by simp, hb, .inl (by simpa using h')⟩
        · exact .inr ⟨e, by simp, hb, .inr h'⟩
    · exact .inr ⟨e', by simp [h1], h2⟩
theorem zip_all {l : List Oper} {p : Oper × Nat → Bool} (h : l.zipIdx.all p = true) {i : Nat} {o : Oper} (hi : l[i]? = some o) : p (o, i) = true :=
  List.all_eq_true.1 h _ (by rw [List.mem_zipIdx_iff_getElem?]; simpa using hi)
structure Draws (Γ : Ctx) (ops pre : List Oper) (A : List Nat) : Prop where
  anc : ∀ i o, ops[i]? = some o → ∀ j, (A.getD i 0).testBit j = true → ∃ e ∈ o.after, Region.binds .any e = true ∧ (e.on = j ∨ (A.getD e.on 0).testBit j = true)
  back : ∀ i o, ops[i]? = some o → ∀ e ∈ o.after, Region.binds .any e = true → e.on < i
  read : ∀ i o, pre[i]? = some o → ∀ t ∈ looks ops o, ∀ j q, pre[j]? = some q → q.dst = some t → j = i ∨ (j < i ∧ (A.getD i 0).testBit j = true) ∨ (i < j ∧ (A.getD j 0).testBit i = true)
  nodup : (dstsL pre).Nodup
  chain : ∀ i j o p, pre[i]? = some o → pre[j]? = some p → isMk Γ o = true → isMk Γ p = true → i < j → (A.getD j 0).testBit i = true
  look : ∀ i j o p, pre[i]? = some o → pre[j]? = some p → isIn (earlyL Γ pre A) o.dst = true → isMk Γ p = true → (A.getD j 0).testBit i = true
theorem memN_mem {j : Nat} : ∀ {l : List Nat}, memN j l = true → j ∈ l
  | a :: r, h => by
    simp only [memN, Bool.or_eq_true] at h
    rcases h with h | h
    · rw [beq_id h]; simp
    · exact List.mem_cons_of_mem _ (memN_mem h)
  | [], h => by simp [memN] at h
theorem draws_of {ops : List Oper} (h : drawOk Γ ops = true) : Draws Γ ops (ops.take (drawCut ops)) (ancs ops []) := by
  simp only [drawOk, Bool.and_eq_true] at h
  obtain ⟨⟨h1, h2⟩, h3, h4⟩ := h
  refine ⟨fun i o hi j hj => ?_, fun i o hi e he hb => ?_, fun i o hi t ht j q hj hq => ?_, nodupN_spec h3, fun i j o p hi hj ho hp hij => ?_, fun i j o p hi hj ho hp => ?_⟩
  rotate_left 3
  · have := zip_all h4 hj
    rw [hp] at this
    simp only [Bool.not_true, Bool.false_or] at this
    have := zip_all this hi
    rw [ho] at this
    have hb : Nat.blt i j = true := by simpa [Nat.blt_eq] using hij
    simpa [hb] using this
  · unfold isIn at ho
    split at ho
    · rename_i d hd
      obtain ⟨⟨o', i'⟩, h5, h6⟩ := List.mem_filterMap.1 (memN_mem ho)
      rw [List.mem_zipIdx_iff_getElem?] at h5
      simp only at h5 h6
      rcases cond_cases h6 with ⟨h7, h8⟩ | ⟨_, h8⟩
      · have hii : i' = i := nodup_get (nodupN_spec h3) h5 hi h8 hd
        subst hii
        have := zip_all h7 hj
        rw [hp] at this
        simpa using this
      · cases h8
    · cases ho
  · have := zip_all h1 hi
    simp only [Bool.and_eq_true] at this
    rw [beq_id this.1] at hj
    unfold ancOf at hj
    rcases fold_bit _ _ hj with h | ⟨e, he, hb⟩
    · simp at h
    · exact ⟨e, by simpa using he, hb⟩
  · have := zip_all h1 hi
    simp only [Bool.and_eq_true] at this
    have := List.all_eq_true.1 this.2 e (by simpa using he)
    simp only [hb, Bool.not_true, Bool.false_or] at this
    simpa [Nat.blt_eq] using this
  · have := List.all_eq_true.1 (zip_all h2 hi) t ht
    have := zip_all this hj
    simp only [hq, Bool.or_eq_true, Bool.not_eq_true'] at this
    rcases this with (h | h) | h
    · simp at h
    · exact .inl (beq_id h)
    · cases hb : Nat.blt j i with
      | true => rw [hb] at h; exact .inr (.inl ⟨by simpa [Nat.blt_eq] using hb, h⟩)
      | false =>
        rw [hb] at h
        rcases Nat.lt_trichotomy j i with hl | hl | hl
        · have : Nat.blt j i = true := by simpa [Nat.blt_eq] using hl
          rw [this] at hb; simp at hb
        · exact .inl hl
        · exact .inr (.inr ⟨hl, h⟩)
theorem cut_spec {A : List Nat} : ∀ (n : Nat), cutAt A n ≤ n ∧ ∀ i, cutAt A n ≤ i → i < n → ∀ j, j < i → (A.getD i 0).testBit j = true
  | 0 => ⟨Nat.le_refl _, fun i _ h => by omega⟩
  | n + 1 => by
    obtain ⟨h1, h2⟩ := cut_spec (A := A) n
    simp only [cutAt]
    cases hf : fullAt A n with
    | false => exact ⟨by simp, fun i hi hl => by simp at hi; omega⟩
    | true =>
      refine ⟨by simp; omega, fun i hi hl j hj => ?_⟩
      simp only [cond_true] at hi
      rcases Nat.lt_or_ge i n with h | h
      · exact h2 i hi h j hj
      · have : i = n := by omega
        subst this
        exact List.all_eq_true.1 hf j (by simpa using hj)

theorem count_lt {l : List Nat} {p q : Nat → Bool} {i : Nat} (hi : i ∈ l) (h1 : p i = false) (h2 : q i = true) (h3 : ∀ j ∈ l, p j = true → q j = true) : l.countP p < l.countP q := by
  induction l with
  | nil => cases hi
  | cons a l ih =>
    have hle : l.countP p ≤ l.countP q := List.countP_mono_left fun j hj hpj => h3 j (List.mem_cons_of_mem _ hj) hpj
    simp only [List.countP_cons]
    rcases List.mem_cons.1 hi with e | e
    · subst e; rw [h1, h2]; simp; omega
    · have := ih e fun j hj => h3 j (List.mem_cons_of_mem _ hj)
      have ha := h3 a (by simp)
      cases hpa : p a with
      | false => simp; split <;> omega
      | true => rw [ha hpa]; simp; omega
theorem calmH_ok {call : Handle} (hc : CallsOK Γ call) : CallsOK Γ (calmH call) := by
  intro g args obs r obs' h
  unfold calmH at h
  cases obs with
  | cons _ _ => simp [lNil] at h
  | nil =>
    simp only [lNil] at h
    split at h
    · rename_i c0 r0 os h1
      cases os with
      | cons _ _ => simp [lNil] at h
      | nil =>
        simp only [lNil] at h
        cases hri : idsA r0 with
        | cons _ _ => rw [hri] at h; simp at h
        | nil =>
        rw [hri] at h
        simp only at h
        cases h
        exact hc g args [] _ _ h1
    · exact absurd h (by simp)

/-- what is listed leads to nothing that is not -/
def Closed (ops : List Oper) (listed : Array Bool) : Prop := ∀ i o, ops[i]? = some o → listed.getD i false = true → ∀ e ∈ o.after, Region.binds .any e = true → listed.getD e.on false = true
theorem anc_listed {ops pre : List Oper} {A : List Nat} (hD : Draws Γ ops pre A) {listed : Array Bool} (hcl : Closed ops listed) : ∀ (i : Nat) (o : Oper), ops[i]? = some o → (∀ e ∈ o.after, Region.binds .any e = true → listed.getD e.on false = true) →
    ∀ j, (A.getD i 0).testBit j = true → listed.getD j false = true := by
  intro i
  induction i using Nat.strongRecOn with
  | _ i ih =>
    intro o ho hall j hj
    obtain ⟨e, he, hb, h⟩ := hD.anc i o ho j hj
    have hl := hall e he hb
    rcases h with rfl | h
    · exact hl
    · have hlt := hD.back i o ho e he hb
      have hil : i < ops.length := (List.getElem?_eq_some_iff.1 ho).1
      obtain ⟨p, hp⟩ : ∃ p, ops[e.on]? = some p := ⟨_, List.getElem?_eq_getElem (by omega)⟩
      exact ih e.on hlt p hp (fun e' he' hb' => hcl e.on p hp hl e' he' hb') j h

/-- temporaries, with some of the operations done -/
structure Part (Γ : Ctx) (ops : List Oper) (ob : Objs) (E0 : Nat → AV) (avs : Nat → AV) (w : World) (S : Addr → Prop) (σ : Loc) (listed : Array Bool) (a : Act) : Prop where
  done : ∀ j o t, ops[j]? = some o → o.dst = some t → listed.getD j false = true → RepA Γ.P w S σ ob (avs j) (a.tmps.getD t undef)
  rest : ∀ t, (∀ j o, ops[j]? = some o → o.dst = some t → listed.getD j false = false) → RepA Γ.P w S σ ob (E0 t) (a.tmps.getD t undef)

theorem unl {ops : Array Oper} {listed : Array Bool} (hsz : listed.size = ops.size) {i : Nat} (hi : i < ops.size) : listed.getD i true = listed.getD i false := by
  rw [Array.getD_eq_getD_getElem?, Array.getD_eq_getD_getElem?, Array.getElem?_eq_getElem (by omega)]; rfl
theorem set_get {ops : Array Oper} {listed : Array Bool} (hsz : listed.size = ops.size) {i : Nat} (hi : i < ops.size) (j : Nat) : (listed.setIfInBounds i true).getD j false = if j = i then true else listed.getD j false := by
  by_cases hji : j = i
  · subst hji
    rw [if_pos rfl, Array.getD_eq_getD_getElem?, Array.getElem?_setIfInBounds_self_of_lt (by omega)]; rfl
  · rw [if_neg hji, getD_set_ne _ (fun e => hji e.symm)]
theorem closed_set {ops : Array Oper} {listed : Array Bool} (hsz : listed.size = ops.size) (hcl : Closed ops.toList listed) {i : Nat} {o : Oper} (hoL : ops.toList[i]? = some o) (hil : i < ops.size)
    (hedges : ∀ e ∈ o.after, Region.binds .any e = true → listed.getD e.on false = true) : Closed ops.toList (listed.setIfInBounds i true) := by
  intro j q hj hlj e he hb
  rw [set_get hsz hil]
  rw [set_get hsz hil] at hlj
  by_cases hji : j = i
  · subst hji
    rw [hoL] at hj; cases hj
    have := hedges e he hb
    by_cases hei : e.on = j
    · rw [if_pos hei]
    · rw [if_neg hei]; exact this
  · rw [if_neg hji] at hlj
    have := hcl j q hj hlj e he hb
    by_cases hei : e.on = i
    · rw [if_pos hei]
    · rw [if_neg hei]; exact this

/-- the rest of a region, of which each operation stands behind all ahead of it -/
theorem seq_ok (hP : tabOk Γ.P = true) (hZ : zeroOk Γ.P = true) {call : Handle} (hc : CallsOK Γ call) {f : FuncId} {n : Nat} {ops : Array Oper} {pre : List Oper} {A : List Nat} (hD : Draws Γ ops.toList pre A) {K : St → Option R} {r : R} {Q : Exit → Act → World → Prop}
    (hQ : ∀ st a w S σ, K st = some r → StOK Γ w0 S0 X n st a w S σ → Q .normal a w) (hd : ∀ o ∈ ops.toList, ∀ d, o.dst = some d → d < n) :
    ∀ (l : List Oper) (k : Nat), k ≤ ops.size → ops.toList.drop k = l → (∀ i, k ≤ i → i < ops.size → ∀ j, j < i → (A.getD i 0).testBit j = true) → ∀ (fuel : Nat) (listed : Array Bool) (st : St) (a : Act) (w : World) (S : Addr → Prop) (σ : Loc), listed.size = ops.size → Closed ops.toList listed →
      (∀ j, j < k → listed.getD j false = true) → (∀ j, k ≤ j → j < ops.size → listed.getD j false = false) → l.length ≤ fuel → StOK Γ w0 S0 X n st a w S σ → stepOps Γ call f ops.toList l st K = some r → wpAny Γ.P .any ops Q fuel listed a w
  | [], k, hkl, hl, hfull, fuel, listed, st, a, w, S, σ, hsz, hcl, hdone, hnot, hfuel, h, hs => by
    have hk : ops.size ≤ k := by have := List.drop_eq_nil_iff.1 hl; simpa using this
    simp only [stepOps] at hs
    have hr : Region.ready .any ops listed = [] := by
      cases hr : Region.ready .any ops listed with
      | nil => rfl
      | cons i x =>
        have hi : i ∈ Region.ready .any ops listed := by rw [hr]; simp
        obtain ⟨h1, o, ho, _⟩ := mem_ready.1 hi
        have hil : i < ops.size := (Array.getElem?_eq_some_iff.1 ho).1
        rw [unl hsz hil, hdone i (by omega)] at h1
        simp at h1
    exact wpAny_done hr (hQ _ _ _ _ _ hs h) fuel
  | o :: l, k, hkl, hl, hfull, 0, listed, st, a, w, S, σ, hsz, hcl, hdone, hnot, hfuel, h, hs => by simp at hfuel
  | o :: l, k, hkl, hl, hfull, fuel + 1, listed, st, a, w, S, σ, hsz, hcl, hdone, hnot, hfuel, h, hs => by
    have hoL : ops.toList[k]? = some o := by
      have := congrArg (·[0]?) hl
      simpa using this
    have hil : k < ops.size := by have := (List.getElem?_eq_some_iff.1 hoL).1; simpa using this
    have ho : ops[k]? = some o := by simpa using hoL
    have hl2 : ops.toList.drop (k + 1) = l := by rw [← List.drop_drop, hl]; rfl
    have hedges : ∀ e ∈ o.after, Region.binds .any e = true → listed.getD e.on false = true := fun e he hb => hdone e.on (hD.back k o hoL e he hb)
    have hkr : k ∈ Region.ready .any ops listed := mem_ready.2 ⟨by rw [unl hsz hil]; exact hnot k (Nat.le_refl _) hil, o, ho, hedges⟩
    refine ⟨fun hr => by (rw [hr] at hkr; cases hkr), fun i hi => ?_⟩
    obtain ⟨h1, q, hq, he⟩ := mem_ready.1 hi
    have hil' : i < ops.size := (Array.getElem?_eq_some_iff.1 hq).1
    rw [unl hsz hil'] at h1
    have hik : i = k := by
      rcases Nat.lt_trichotomy i k with hlt | rfl | hgt
      · rw [hdone i hlt] at h1; simp at h1
      · rfl
      · have := anc_listed hD hcl i q (by simpa using hq) he k (hfull i (by omega) hil' k hgt)
        rw [hnot k (Nat.le_refl _) hil] at this
        simp at this
    subst hik
    have hdo : ∀ d, o.dst = some d → d < n := hd o (List.mem_of_getElem? hoL)
    have next : ∀ (st' : St) (a' : Act) (w' : World) (S' : Addr → Prop) (σ' : Loc), StOK Γ w0 S0 X n st' a' w' S' σ' → stepOps Γ call f ops.toList l st' K = some r → wpAny Γ.P .any ops Q fuel (listed.setIfInBounds i true) a' w' := by
      intro st' a' w' S' σ' hst hs'
      refine seq_ok hP hZ hc hD hQ hd l (i + 1) hil hl2 (fun j hj => hfull j (by omega)) fuel _ st' a' w' S' σ' (by simpa using hsz) (closed_set hsz hcl hoL hil hedges) (fun j hj => ?_) (fun j hj hjl => ?_) (by simp at hfuel; omega) hst hs'
      · rw [set_get hsz hil]
        by_cases hji : j = i
        · rw [if_pos hji]
        · rw [if_neg hji]; exact hdone j (by omega)
      · rw [set_get hsz hil, if_neg (by omega)]; exact hnot j (by omega) hjl
    simp only [stepOps] at hs
    obtain ⟨b, tm, hs, hw, h'⟩ := guard_ok h hs
    unfold wpOp
    rw [ho]
    simp only [hw]
    rcases cond_cases hs with ⟨rfl, hs2⟩ | ⟨rfl, hs2⟩
    · simp only [if_true]
      exact .inl (oper_ok hP hZ hc h' hdo hs2 fun av ob' a' w' S' σ' hK hst => next _ a' w' S' σ' hst hK)
    · simp only [Bool.false_eq_true, if_false]
      exact next _ _ w S σ (h'.put (Trans.refl h'.mem) skip_rep hdo) hs2

theorem drawn_ok (hP : tabOk Γ.P = true) (hZ : zeroOk Γ.P = true) {call : Handle} (hc : CallsOK Γ call) {f : FuncId} {n : Nat} {lk : Bool} {ops : Array Oper} {K : St → Option R} {r : R} {Q : Exit → Act → World → Prop}
    (hQ : ∀ st a w S σ, K st = some r → StOK Γ w0 S0 X n st a w S σ → Q .normal a w) (hd : ∀ o ∈ ops.toList, ∀ d, o.dst = some d → d < n) (hcheck : drawOk Γ ops.toList = true)
    {st : St} {a : Act} {w : World} {S : Addr → Prop} {σ : Loc} (h : StOK Γ w0 S0 X n st a w S σ) (hs : stepOpsD Γ call f lk ((ops.toList.take (drawCut ops.toList)).any (isMk Γ)) (earlyL Γ (ops.toList.take (drawCut ops.toList)) (ancs ops.toList [])) ops.toList (ops.toList.take (drawCut ops.toList)) st.ob st (fun st1 => stepOps Γ call f ops.toList (ops.toList.drop (drawCut ops.toList)) st1 K) = some r) :
    wpAny Γ.P .any ops Q ops.size (Array.replicate ops.size false) a w := by
  obtain ⟨tm, ob⟩ := st
  have hD := draws_of hcheck
  obtain ⟨hkl, hfull⟩ := cut_spec (A := ancs ops.toList []) ops.toList.length
  have hkc : drawCut ops.toList = cutAt (ancs ops.toList []) ops.toList.length := rfl
  rw [← hkc] at hkl hfull
  generalize hA : ancs ops.toList [] = A at hD hfull hs
  generalize drawCut ops.toList = k at *
  generalize hpre : ops.toList.take k = pre at *
  generalize (pre.any (isMk Γ)) = al at hs
  obtain ⟨avs, Es, Ts, tm', hE0, hT0, hgood, hK, hfin⟩ := plan_of pre ob tm hs
  have hes := fun t i hi => es_spec hD.nodup (fun i o ho => (hgood i o ho).2) t i hi
  have hlen : ops.toList.length = ops.size := by simp
  have hplen : pre.length = k := by rw [← hpre]; simp at hkl ⊢; omega
  have hpo : ∀ {i : Nat} {o : Oper}, pre[i]? = some o → ops.toList[i]? = some o ∧ i < k := fun {i o} hi => by
    have hik : i < k := by rw [← hplen]; exact (List.getElem?_eq_some_iff.1 hi).1
    rw [← hpre, List.getElem?_take, if_pos hik] at hi
    exact ⟨hi, hik⟩
  have hop : ∀ {i : Nat} {o : Oper}, ops.toList[i]? = some o → i < k → pre[i]? = some o := fun {i o} hi hik => by
    rw [← hpre, List.getElem?_take, if_pos hik]; exact hi
  have hTs : ∀ i o, pre[i]? = some o → isMk Γ o = false → Ts (i + 1) = Ts i := fun i o ho hm => by
    rcases (hgood i o ho).1 with ⟨h, _⟩ | ⟨_, h, _⟩
    · rw [hm] at h; cases h
    · exact h
  have hnil : al = false → ∀ c, c ≤ k → Ts c = ob := fun hal c hck => by
    rw [← hT0]
    refine same_T hTs 0 c (Nat.zero_le _) (by omega) fun i o _ _ ho => ?_
    rcases (hgood i o ho).1 with ⟨_, h, _⟩ | ⟨h, _⟩
    · rw [hal] at h; cases h.1
    · exact h
  have hext : lk = false → ∀ c, c ≤ pre.length → ∃ x, Ts c = ob ++ x := fun hst c => by
    induction c with
    | zero => exact fun _ => ⟨[], by rw [hT0, List.append_nil]⟩
    | succ c ih =>
      intro hc
      obtain ⟨x, hx⟩ := ih (by omega)
      obtain ⟨o, ho⟩ : ∃ o, pre[c]? = some o := ⟨_, List.getElem?_eq_getElem (by omega)⟩
      rcases (hgood c o ho).1 with ⟨hm, ⟨_, hfr⟩, hstep⟩ | ⟨_, h, _⟩
      · rcases mk_new Γ call f o (evoE Γ (Es c)) ob x hm (by rw [hst, Bool.false_or] at hfr; exact hfr) with ⟨a', T', hav⟩ | hav
        · have h1 := (hstep _ (fun _ o => some o)).symm
          rw [hx] at h1
          have h2 := hav _ (fun _ o => some o)
          have h2 : stepOp Γ call f o (evoE Γ (Es c)) (ob ++ x) (fun _ o => some o) = some (ob ++ T') := h2
          rw [h2] at h1
          exact ⟨T', Option.some.inj h1⟩
        · have h1 := (hstep _ (fun _ o => some o)).symm
          rw [hx] at h1
          have h2 := hav _ (fun _ o => some o)
          have h2 : stepOp Γ call f o (evoE Γ (Es c)) (ob ++ x) (fun _ o => some o) = none := h2
          rw [h2] at h1
          cases h1
      · rw [h]; exact ⟨x, hx⟩
  -- what makes objects is done in order, up to somewhere
  let Thr : Array Bool → Nat → Prop := fun listed c => c ≤ k ∧ ∀ i o, pre[i]? = some o → isMk Γ o = true → (listed.getD i false = true ↔ i < c)
  -- the general step
  have main : ∀ (fuel : Nat) (listed : Array Bool) (c : Nat) (a : Act) (w : World) (S : Addr → Prop) (σ : Loc), Thr listed c → listed.size = ops.size → Closed ops.toList listed → (∀ j, k ≤ j → j < ops.size → listed.getD j false = false) → Part Γ pre (Ts c) (Es 0) avs w S σ listed a → MemOK Γ w0 S0 X w S σ (Ts c) →
      n ≤ a.tmps.size → a.defers = X.dfs → ((List.range ops.size).countP fun i => !listed.getD i true) ≤ fuel → wpAny Γ.P .any ops Q fuel listed a w := by
    have allDone : ∀ (fuel : Nat) (listed : Array Bool) (c : Nat) (a : Act) (w : World) (S : Addr → Prop) (σ : Loc), Thr listed c → listed.size = ops.size → Closed ops.toList listed → (∀ j, k ≤ j → j < ops.size → listed.getD j false = false) → Part Γ pre (Ts c) (Es 0) avs w S σ listed a → MemOK Γ w0 S0 X w S σ (Ts c) → n ≤ a.tmps.size → a.defers = X.dfs →
        ((List.range ops.size).countP fun i => !listed.getD i true) ≤ fuel → (∀ i, i < k → listed.getD i false = true) → wpAny Γ.P .any ops Q fuel listed a w := by
      intro fuel listed c a w S σ hthr hsz hcl hnot hpart hM hn hdf hcount hall
      have hob : Ts c = Ts pre.length := by
        rw [same_T hTs c pre.length (by have := hthr.1; omega) (Nat.le_refl _) fun i o h1 h2 ho => by
          cases hm : isMk Γ o with
          | false => rfl
          | true => have := (hthr.2 i o ho hm).1 (hall i (by omega)); omega]
      refine seq_ok hP hZ hc hD hQ hd (ops.toList.drop k) k (by omega) rfl (fun i hi hil j hj => hfull i hi (by omega) j hj) fuel listed ⟨tm', Ts pre.length⟩ a w S σ hsz hcl hall hnot ?_ ⟨hob ▸ hM, fun t => ?_, hn, hdf⟩ hK
      · refine Nat.le_trans ?_ hcount
        have hsub : ((List.range ops.size).drop k).countP (fun i => !listed.getD i true) = ((List.range ops.size).drop k).length := by
          rw [List.countP_eq_length]
          intro j hj
          obtain ⟨m, hm⟩ := List.mem_iff_getElem?.1 hj
          rw [List.getElem?_drop] at hm
          obtain ⟨hm1, hm2⟩ := List.getElem?_eq_some_iff.1 hm
          simp at hm1 hm2
          subst hm2
          rw [unl hsz (by omega), hnot (k + m) (by omega) (by omega)]; rfl
        have : ((List.range ops.size).drop k).countP (fun i => !listed.getD i true) ≤ (List.range ops.size).countP fun i => !listed.getD i true := (List.drop_sublist k _).countP_le
        rw [hsub] at this
        simp at this ⊢
        omega
      · show RepA Γ.P w S σ (Ts pre.length) (get tm' t) _
        rw [hfin, ← hob]
        obtain ⟨g1, g2⟩ := hes t _ (Nat.le_refl _)
        by_cases hex : ∃ (j : Nat) (o : Oper), pre[j]? = some o ∧ o.dst = some t
        · obtain ⟨j, o, hj, ho⟩ := hex
          have hjl : j < pre.length := (List.getElem?_eq_some_iff.1 hj).1
          rw [g1 j o hjl hj ho]
          exact hpart.done j o t hj ho (hall j (by omega))
        · rw [g2 fun j o _ hj ho => hex ⟨j, o, hj, ho⟩]
          exact hpart.rest t fun j o hj ho => absurd ⟨j, o, hj, ho⟩ hex
    intro fuel
    induction fuel with
    | zero =>
      intro listed c a w S σ hthr hsz hcl hnot hpart hM hn hdf hcount
      refine allDone 0 listed c a w S σ hthr hsz hcl hnot hpart hM hn hdf hcount fun i hi => ?_
      have := List.countP_eq_zero.1 (Nat.le_zero.1 hcount) i (by simp; omega)
      rw [unl hsz (by omega)] at this
      simpa using this
    | succ fuel ih =>
      intro listed c a w S σ hthr hsz hcl hnot hpart hM hn hdf hcount
      by_cases hallk : ∀ i, i < k → listed.getD i false = true
      · exact allDone _ listed c a w S σ hthr hsz hcl hnot hpart hM hn hdf hcount hallk
      refine ⟨fun hr => ?_, fun i hi => ?_⟩
      · exfalso
        apply hallk
        intro i
        induction i using Nat.strongRecOn with
        | _ i ih =>
          intro hi
          rcases hli : listed.getD i false with _ | _
          · exfalso
            obtain ⟨o, ho⟩ : ∃ o, ops[i]? = some o := ⟨_, Array.getElem?_eq_getElem (by omega)⟩
            have : i ∈ Region.ready .any ops listed := mem_ready.2 ⟨by rw [unl hsz (by omega)]; exact hli, o, ho, fun e he hb => by
              have hlt := hD.back i o (by simpa using ho) e he hb
              exact ih e.on hlt (by omega)⟩
            rw [hr] at this
            cases this
          · rfl
      obtain ⟨h1, o, ho, hedges⟩ := mem_ready.1 hi
      have hil : i < ops.size := (Array.getElem?_eq_some_iff.1 ho).1
      have hoT : ops.toList[i]? = some o := by simpa using ho
      have hif : listed.getD i false = false := by rw [← unl hsz hil]; exact h1
      have hik : i < k := by
        rcases Nat.lt_or_ge i k with hlt | hge
        · exact hlt
        · exfalso
          apply hallk
          intro j hj
          exact anc_listed hD hcl i o hoT hedges j (hfull i hge (by omega) j (by omega))
      have hoL : pre[i]? = some o := hop hoT hik
      have hil2 : i < ops.size := hil
      obtain ⟨b, c', hh, hch, hthr', hwant, hdoes, hundef⟩ : ∃ (b : Bool) (c' : Nat) (hh : Handle), CallsOK Γ hh ∧ Thr (listed.setIfInBounds i true) c' ∧ ((o.guard = none ∧ b = true) ∨ (∃ j want d x, o.guard = some (j, want) ∧ (ops.toList[j]?).bind (·.dst) = some d ∧ Es i d = .b x ∧ b = (want == x)) ∨ ∃ j want d, o.guard = some (j, want) ∧ (ops.toList[j]?).bind (·.dst) = some d ∧ Es i d = .tuple [] ∧ b = false) ∧
          (b = true → stepOp Γ hh f o (evoE Γ (Es i)) (Ts c) (fun v ob' => some (v, ob')) = some (avs i, Ts c')) ∧ (b = false → avs i = .tuple [] ∧ Ts c' = Ts c) := by
        rcases (hgood i o hoL).1 with ⟨hm, hal, hstep⟩ | ⟨hm, _, ⟨b, hwant, hdoes, hundef⟩⟩
        · have hci : c ≤ i := by
            rcases Nat.lt_or_ge i c with hlt | hge
            · have := (hthr.2 i o hoL hm).2 hlt
              rw [hif] at this; cases this
            · exact hge
          have hnone : ∀ j q, c ≤ j → j < i → pre[j]? = some q → isMk Γ q = false := fun j q h1 h2 hq => by
            cases hmq : isMk Γ q with
            | false => rfl
            | true =>
              have hl := anc_listed hD hcl i o hoT hedges j (hD.chain j i q o hq hoL hmq hm h2)
              have := (hthr.2 j q hq hmq).1 hl
              omega
          have hT : Ts c = Ts i := (same_T hTs c i hci (by omega) hnone).symm
          refine ⟨true, i + 1, call, hc, ⟨hik, fun j q hq hmq => ?_⟩, .inl ⟨mk_guard hm, rfl⟩, fun _ => by rw [hT]; exact hstep _ _, fun h => by cases h⟩
          rw [set_get hsz hil]
          by_cases hji : j = i
          · rw [if_pos hji]; exact ⟨fun _ => by omega, fun _ => rfl⟩
          · rw [if_neg hji, hthr.2 j q hq hmq]
            refine ⟨fun h => by omega, fun h => ?_⟩
            rcases Nat.lt_or_ge j c with hlt | hge
            · exact hlt
            · have := hnone j q hge (by omega) hq
              rw [hmq] at this; cases this
        · refine ⟨b, c, calmH call, calmH_ok hc, ⟨hthr.1, fun j q hq hmq => ?_⟩, hwant, fun hb => ?_, fun hb => ⟨hundef hb, rfl⟩⟩
          · rw [set_get hsz hil]
            by_cases hji : j = i
            · subst hji
              rw [hoL] at hq; cases hq
              rw [hm] at hmq; cases hmq
            · rw [if_neg hji]; exact hthr.2 j q hq hmq
          · obtain ⟨d1, d2, d6⟩ := hdoes hb
            cases hal : al with
            | false =>
              rw [hnil hal c hthr.1]
              exact d1 _ _
            | true =>
              obtain ⟨d3, d4⟩ := d2 hal
              cases hst : lk with
              | false =>
                obtain ⟨x, hx⟩ := hext hst c (by have := hthr.1; omega)
                rw [hx]
                exact d4 _ _ _
              | true =>
                rcases d6 hst with hpk | hea | ⟨hfr, hcm⟩
                · exact pure_any hpk d3 d1 _ _ _
                · have h0 : Ts c = ob := by
                    rw [← hT0]
                    refine same_T hTs 0 c (Nat.zero_le _) (by have := hthr.1; omega) fun j q _ hj hq => ?_
                    cases hmq : isMk Γ q with
                    | false => rfl
                    | true =>
                      have hl := (hthr.2 j q hq hmq).2 hj
                      have hb2 := hD.look i j o q hoL hq hea hmq
                      have := anc_listed hD hcl j q (hpo hq).1 (fun e he hb => hcl j q (hpo hq).1 hl e he hb) i hb2
                      rw [hif] at this; cases this
                  rw [h0]
                  exact d1 _ _
                · exact free_any hfr hcm d1 _ _ _
      -- what it looks at
      have hlook : ∀ t ∈ looks ops.toList o, RepA Γ.P w S σ (Ts c) (Es i t) (a.tmps.getD t undef) := by
        intro t ht
        obtain ⟨g1, g2⟩ := hes t i (by omega)
        by_cases hex : ∃ (j : Nat) (q : Oper), j < i ∧ pre[j]? = some q ∧ q.dst = some t
        · obtain ⟨j, q, hji, hj, hq⟩ := hex
          rw [g1 j q hji hj hq]
          refine hpart.done j q t hj hq ?_
          rcases hD.read i o hoL t ht j q hj hq with h | h | h
          · omega
          · exact anc_listed hD hcl i o hoT hedges j h.2
          · omega
        · rw [g2 fun j q hji hj hq => hex ⟨j, q, hji, hj, hq⟩]
          refine hpart.rest t fun j q hj hq => ?_
          rcases hD.read i o hoL t ht j q hj hq with h | h | h
          · rw [h]; exact hif
          · exact absurd ⟨j, q, h.1, hj, hq⟩ hex
          · cases hlj : listed.getD j false with
            | false => rfl
            | true =>
              have := anc_listed hD hcl j q (hpo hj).1 (fun e he hb => hcl j q (hpo hj).1 hlj e he hb) i h.2
              rw [hif] at this
              simp at this
      have hwanted : Region.wanted o (yielded ops a.tmps) = b := by
        rcases hwant with ⟨hg, rfl⟩ | ⟨j, want, d, x, hg, hdst, hx, rfl⟩ | ⟨j, want, d, hg, hdst, hx, rfl⟩
        · simp [Region.wanted, hg]
        · have htm := hlook d (by
            unfold looks
            refine List.mem_append_right _ ?_
            rw [hg]; simp only [hdst]; simp)
          rw [hx] at htm
          simp only [RepA] at htm
          have hdz : d < a.tmps.size := by
            rcases Nat.lt_or_ge d a.tmps.size with hlt | hge
            · exact hlt
            · rw [Array.getD_eq_getD_getElem?, Array.getElem?_eq_none hge] at htm; simp [undef] at htm
          have hy : yielded ops a.tmps j = some x := by
            unfold yielded
            have : (ops[j]?).bind (·.dst) = some d := by simpa using hdst
            rw [this]
            simp only [Option.bind_some]
            rw [Array.getElem?_eq_getElem hdz]
            rw [Array.getD_eq_getD_getElem?, Array.getElem?_eq_getElem hdz] at htm
            simp only [Option.getD_some] at htm
            rw [htm]
          cases x <;> cases want <;> simp [Region.wanted, hg, hy]
        · have htm := hlook d (by
            unfold looks
            refine List.mem_append_right _ ?_
            rw [hg]; simp only [hdst]; simp)
          rw [hx] at htm
          have hy : yielded ops a.tmps j = none := yielded_skip hdst htm
          simp [Region.wanted, hg, hy]
      have hdi : ∀ d, o.dst = some d → d < a.tmps.size := fun d hod => Nat.lt_of_lt_of_le (hd o (List.mem_of_getElem? hoT) d hod) hn
      -- behind it
      have go : ∀ (v : Value) (w' : World) (S' : Addr → Prop) (σ' : Loc), Trans Γ w0 S0 X w S σ (Ts c) w' S' σ' (Ts c') → RepA Γ.P w' S' σ' (Ts c') (avs i) v → wpAny Γ.P .any ops Q fuel (listed.setIfInBounds i true) (a.put o.dst v) w' := by
        intro v w' S' σ' ht hv
        have hgs := fun j => set_get hsz hil (j := j)
        refine ih _ c' _ w' S' σ' hthr' (by simpa using hsz) (closed_set hsz hcl hoT hil hedges) (fun j hj hjl => by rw [hgs, if_neg (by omega)]; exact hnot j hj hjl) ?_ ht.1 ?_ ?_ ?_
        · refine ⟨fun j q t hj hq hlj => ?_, fun t hno => ?_⟩
          · rw [getD_put a o.dst v t hdi]
            rw [hgs] at hlj
            by_cases hji : j = i
            · subst hji
              rw [hoL] at hj; cases hj
              rw [if_pos hq]; exact hv
            · rw [if_neg hji] at hlj
              rw [if_neg fun hod => hji (nodup_get hD.nodup hj hoL hq hod)]
              exact ht.2 _ _ (hpart.done j q t hj hq hlj)
          · rw [getD_put a o.dst v t hdi]
            rw [if_neg fun hod => by
              have := hno i o hoL hod
              rw [hgs, if_pos rfl] at this
              simp at this]
            refine ht.2 _ _ (hpart.rest t fun j q hj hq => ?_)
            have := hno j q hj hq
            rw [hgs] at this
            by_cases hji : j = i
            · rw [if_pos hji] at this; simp at this
            · rw [if_neg hji] at this; exact this
        · cases o.dst <;> simp [Act.put, hn]
        · cases o.dst <;> simp [Act.put, hdf]
        · have hlt : ((List.range ops.size).countP fun j => !(listed.setIfInBounds i true).getD j true) < ((List.range ops.size).countP fun j => !listed.getD j true) := by
            refine count_lt (i := i) (by simpa using hil) ?_ ?_ ?_
            · rw [unl (by simpa using hsz) hil, hgs, if_pos rfl]; rfl
            · rw [unl hsz hil, hif]; rfl
            · intro j hj hjt
              have hjl : j < ops.size := by simpa using hj
              rw [unl (by simpa using hsz) hjl, hgs] at hjt
              rw [unl hsz hjl]
              by_cases hji : j = i
              · rw [if_pos hji] at hjt; simp at hjt
              · rw [if_neg hji] at hjt; exact hjt
          omega
      unfold wpOp
      rw [ho]
      simp only [hwanted]
      cases b with
      | false =>
        simp only [Bool.false_eq_true, if_false]
        obtain ⟨hu1, hu2⟩ := hundef rfl
        refine go undef w S σ (by rw [hu2]; exact Trans.refl hM) ?_
        rw [hu1]; exact skip_rep
      | true =>
        simp only [if_true]
        refine .inl ?_
        have hstep := hdoes rfl
        let ρ : Operand → AV := fun x => @ite _ (x ∈ o.op.operands) (Classical.propDecidable _) (evoE Γ (Es i) x) .undef
        have hρ : ∀ x, RepA Γ.P w S σ (Ts c) (ρ x) (a.eval x) := by
          intro x
          by_cases hx : x ∈ o.op.operands
          · have : ρ x = evoE Γ (Es i) x := if_pos hx
            rw [this]
            cases x with
            | tmp t => exact hlook t (List.mem_append_left _ (List.mem_filterMap.2 ⟨.tmp t, by simpa using hx, rfl⟩))
            | const v => exact ofConst_ok v
            | global g =>
              simp only [evoE, Act.eval]
              cases hg : Γ.G g with
              | none => simp only [RepA]
              | some p =>
                obtain ⟨t, x⟩ := p
                obtain ⟨vs, h1, h2⟩ := hM.glob.data g t x hg
                simp only [RepA]
                exact ⟨g, 0, vs, rfl, h1, h2.1⟩
            | func f =>
              simp only [evoE, Act.eval, RepA]
              exact ⟨[], rfl, by simp only [RepAs]⟩
          · have : ρ x = .undef := if_neg hx
            rw [this]; simp only [RepA]
        rw [stepOp_congr (ρ' := ρ) fun x hx => (if_pos hx).symm] at hstep
        obtain ⟨av', ob', h1, hg⟩ := stepOp_ok hP hZ hM hch hρ rfl hstep
        cases h1
        unfold Oper.wp
        unfold OpGood at hg
        exact upon_of hg fun v w' ⟨S', σ', ht, hv⟩ => go v w' S' σ' ht hv
  have hrep : ∀ j, (Array.replicate ops.size false).getD j false = false := fun j => by
    rw [Array.getD_eq_getD_getElem?, Array.getElem?_replicate]; split <;> rfl
  have hob0 : Ts 0 = ob := hT0
  refine main ops.size _ 0 a w S σ ⟨Nat.zero_le _, fun i o _ _ => ⟨fun h => (by rw [hrep] at h; cases h), fun h => (by omega)⟩⟩ (by simp) ?_ (fun j _ _ => hrep j) ?_ (by rw [hob0]; exact h.mem) h.size h.defers ?_
  · intro i o hi hl
    rw [hrep] at hl; simp at hl
  · refine ⟨fun j o t hj ho hl => ?_, fun t _ => ?_⟩
    · rw [hrep] at hl; simp at hl
    · rw [hE0, hob0]; exact h.tm t
  · exact Nat.le_trans List.countP_le_length (by simp)
/-- a variable that is not written any more -/
theorem frzP_ok (hP : tabOk Γ.P = true) (hM : MemOK Γ w0 S0 X w S σ ob) {a a' : AV} {ob' : Objs} {v : Value} (h : frzP a ob = (a', ob')) (ha : RepA Γ.P w S σ ob a v) :
    ∃ S', Trans Γ w0 S0 X w S σ ob w S' σ ob' ∧ RepA Γ.P w S' σ ob' a' v := by
  unfold frzP at h
  split at h
  · rename_i j u
    split at h
    · rename_i tb bv hob
      split at h
      · rename_i x hx
        cases h
        simp only [RepA] at ha
        obtain ⟨hl, b, off, rfl, ha⟩ := ha
        obtain ⟨rfl, hoff⟩ := ha _ _ hob
        simp only [offP] at hoff
        obtain ⟨dd, hdd, hoff⟩ := Option.map_eq_some_iff.1 hoff
        simp only [Prod.mk.injEq] at hoff
        obtain ⟨rfl, rfl⟩ := hoff
        have hO := hM.objs j _ hob
        simp only [ObjAt] at hO
        obtain ⟨vs, el, fr, hbl, hnf, hel, hlen, hbox, hone, hS⟩ := hO
        have hown := hM.own j _ hob
        have hrt := toD_rep hP (show BV Γ.P w S σ ob tb bv vs from hbox) hx
        let S' : Addr → Prop := fun y => S y ∨ (y.block = (σ j).1 ∧ y.off < vs.length ∧ y.spot = none)
        have t1 := hM.kill j
        have t2 := t1.1.shine (S' := S') (b := (σ j).1) hown.1 hown.2 (fun k o hk => by
          obtain ⟨g1, g2⟩ := get_kill hk
          exact hM.apart k j _ _ g2 hob g1) (fun _ hy => .inl hy) (fun y hy => hy.imp id (·.1))
        refine ⟨S', t1.trans t2, ?_⟩
        simp only [RepA]
        refine ⟨_, _, vs, rfl, fun q v hq => ⟨?_, .inr ⟨rfl, ?_, rfl⟩⟩, RepT.keep t2.keeps _ _ _ (hrt.under hP)⟩
        · simp only [World.cell?, hbl, Nat.zero_add, Option.isSome_none, Bool.false_eq_true, if_false, List.getElem?_toArray]
          exact hq
        · simpa using (List.getElem?_eq_some_iff.1 hq).1
      · cases h; exact ⟨S, Trans.refl hM, ha⟩
    · cases h; exact ⟨S, Trans.refl hM, ha⟩
  · exact frz_ok hP hM h ha
/-- rows that are not written any more: nothing is done -/
theorem frzT_ok (hP : tabOk Γ.P = true) {n : Nat} : ∀ (ts : List Nat) {st : St} {a : Act} {w : World} {S : Addr → Prop} {σ : Loc}, StOK Γ w0 S0 X n st a w S σ → ∃ S', StOK Γ w0 S0 X n (frzT ts st) a w S' σ
  | [], st, a, w, S, σ, h => ⟨S, h⟩
  | t :: r, st, a, w, S, σ, h => by
    simp only [frzT]
    cases hf : frzP (get st.tm t) st.ob with
    | mk v ob' =>
      obtain ⟨S1, t1, hv⟩ := frzP_ok hP h.mem hf (h.tm t)
      refine frzT_ok hP r (S := S1) ⟨t1.1, fun t' => ?_, h.size, h.defers⟩
      show RepA Γ.P w S1 σ ob' (get (V.put (some t) v st.tm) t') _
      rw [get_put]
      by_cases ht : some t = some t'
      · rw [if_pos ht]; cases ht; exact hv
      · rw [if_neg ht]; exact t1.2 _ _ (h.tm t')
end
end Go.Proofs.Ytbdekjlnnbjicaa.V

/- Code: what the machine over values says of it, the machine does. -/
namespace Go.Proofs.Ytbdekjlnnbjicaa.V
open Go
set_option linter.unusedVariables false
set_option linter.unusedSimpArgs false

section
variable {Γ : Ctx} {w0 : World} {S0 : Addr → Prop} {X : XB} {w w' : World} {S S' : Addr → Prop} {σ σ' : Loc} {ob ob' : Objs} {R : Type}

/-- from here a frame comes to its end, with this result -/
def Fin (Γ : Ctx) (w0 : World) (S0 : Addr → Prop) (X : XB) (fn : Func) (b : Frame) (cs : List Frame) (res : AV × Objs) (m : Machine) : Prop :=
  ∃ (a' : Act) (w' : World) (todo : List Item) (S' : Addr → Prop) (v : Value), Steps Γ.P m (lone { b.at a' todo with mode := .returning } cs w') ∧ a'.defers = X.dfs ∧ (results fn a'.tmps).run Γ.P w' = .ok v w' ∧
    ∃ σ', MemOK Γ w0 S0 X w' S' σ' res.2 ∧ RepA Γ.P w' S' σ' res.2 res.1 v
theorem Fin.of_steps {fn : Func} {b : Frame} {cs : List Frame} {res : AV × Objs} {m m' : Machine} (h : Steps Γ.P m m') (h' : Fin Γ w0 S0 X fn b cs res m') : Fin Γ w0 S0 X fn b cs res m := by
  obtain ⟨a', w', todo, S', v, g1, g2⟩ := h'
  exact ⟨a', w', todo, S', v, h.trans g1, g2⟩
def GoodAt (Γ : Ctx) (w0 : World) (S0 : Addr → Prop) (X : XB) (fn : Func) (todo : List AI) (st : St) (res : AV × Objs) : Prop :=
  ∀ (a : Act) (w : World) (S : Addr → Prop) (σ : Loc), StOK Γ w0 S0 X fn.ntmps st a w S σ → ∀ (b : Frame) (cs : List Frame), Fin Γ w0 S0 X fn b cs res (lone (b.at a (items todo)) cs w)

def resF (tmps : Array Value) : ResultVar → Sem Value
  | .tmp t => pure (tmps.getD t undef)
  | .cell c t => do loadVar t (← asAddr (tmps.getD c undef))
theorem results_eq (fn : Func) (tmps : Array Value) : results fn tmps = (do
    let vs ← fn.results.mapM (resF tmps)
    pure (if h : vs.size = 1 then vs[0] else .tuple vs)) := by
  unfold results
  congr 2
theorem resL_ok (hP : tabOk Γ.P = true) {n : Nat} {st : St} {a : Act} (h : StOK Γ w0 S0 X n st a w S σ) : ∀ (rs : List ResultVar) (l : List AV), resL Γ.P rs st = some l →
    ∃ vs, (rs.mapM (resF a.tmps)).run Γ.P w = .ok vs w ∧ RepAs Γ.P w S σ st.ob l vs
  | [], l, hr => by
    simp only [resL] at hr; cases hr
    exact ⟨[], by simp, by simp only [RepAs]⟩
  | .tmp t :: r, l, hr => by
    simp only [resL] at hr
    obtain ⟨l', h1, rfl⟩ := Option.map_eq_some_iff.1 hr
    obtain ⟨vs, g1, g2⟩ := resL_ok hP h r l' h1
    refine ⟨_ :: vs, ?_, by simp only [RepAs]; exact ⟨_, _, rfl, h.tm t, g2⟩⟩
    simp only [List.mapM_cons, resF, Sem.run_bind, Sem.run_pure, Result.andThen_ok, g1]
  | .cell c t :: r, l, hr => by
    simp only [resL] at hr
    split at hr
    · rename_i j u hj
      split at hr
      · rename_i tb v hob
        obtain ⟨hf, hr2⟩ := cond_some hr
        obtain ⟨l', h1, rfl⟩ := Option.map_eq_some_iff.1 hr2
        obtain ⟨vs, g1, g2⟩ := resL_ok hP h r l' h1
        have hp := h.tm c
        rw [hj] at hp
        simp only [RepA] at hp
        obtain ⟨_, b, off, hv, hp⟩ := hp
        obtain ⟨rfl, ho⟩ := hp _ _ hob
        simp only [offP] at ho
        obtain ⟨_, _, ho⟩ := Option.map_eq_some_iff.1 ho
        cases ho
        have hO := h.mem.objs j _ hob
        simp only [ObjAt] at hO
        obtain ⟨cs, el, fr, hb, _, _, hl, ⟨_, u, hu, hrep⟩, _, _⟩ := hO
        have hrun := loadVar_run (b := (σ j).1) (o := 0) hP hf hrep (range_of_block (A := []) (B := []) hb (by simp [hu]) rfl)
        refine ⟨_ :: vs, ?_, by simp only [RepAs]; exact ⟨_, _, rfl, hrep, g2⟩⟩
        simp only [List.mapM_cons, resF, Sem.run_bind, hv, asAddr, Sem.run_pure, Result.andThen_ok, hrun, g1]
      · exact absurd hr (by simp)
    · exact absurd hr (by simp)
theorem oneR_ok {l : List AV} {vs : List Value} {ob : Objs} {w : World} {S : Addr → Prop} {σ : Loc} {P : Program} (g4 : RepAs P w S σ ob l vs) : RepA P w S σ ob (oneR l) (if h : vs.toArray.size = 1 then vs.toArray[0] else .tuple vs.toArray) := by
  rcases l with _ | ⟨x, _ | ⟨y, r⟩⟩
  · simp only [RepAs] at g4; subst g4
    simp only [oneR, RepA]
    exact ⟨[], by simp, by simp only [RepAs]⟩
  · simp only [RepAs] at g4
    obtain ⟨v, _, rfl, g5, rfl⟩ := g4
    simpa [oneR] using g5
  · have g4' := g4
    simp only [RepAs] at g4
    obtain ⟨v, _, rfl, g5, v', vs', rfl, g6⟩ := g4
    simp only [oneR, RepA]
    exact ⟨v :: v' :: vs', by simp, g4'⟩
theorem renL_one (g : Nat → Nat) : ∀ l : List AV, renA g (oneR l) = oneR (renL g l)
  | [] => by simp [oneR, renA, renL]
  | [a] => by simp [oneR, renL]
  | a :: b :: r => by simp [oneR, renA, renL]
theorem fin_ok (hP : tabOk Γ.P = true) {fn : Func} {n m : Nat} {out : Bool} (hm : X.roots.length = m) {st : St} {a : Act} (h : StOK Γ w0 S0 X n st a w S σ) {res : AV × Objs} (hf : fin Γ.P m out fn.results.toList st = some res) :
    ∃ S' v, (results fn a.tmps).run Γ.P w = .ok v w ∧ ∃ σ', MemOK Γ w0 S0 X w S' σ' res.2 ∧ RepA Γ.P w S' σ' res.2 res.1 v := by
  unfold fin at hf
  split at hf
  · rename_i l hl
    obtain ⟨vs, g1, g2⟩ := resL_ok hP h _ _ hl
    cases hz : frzC out l st.ob with
    | mk l' ob1 =>
      rw [hz] at hf
      simp only at hf
      generalize hord : reach ob1 400 (idsOb ob1 (List.range m) ++ idsL l') (List.range m) = ord at hf
      obtain ⟨hcl, hf⟩ := cond_some hf
      cases hf
      obtain ⟨S1, t1, g3⟩ := frzC_ok hP h.mem hz g2
      have hrun : (results fn a.tmps).run Γ.P w = .ok (if h : vs.toArray.size = 1 then vs.toArray[0] else .tuple vs.toArray) w := by
        rw [results_eq]
        rw [Array.mapM_eq_mapM_toList]
        simp only [Sem.run_bind, Sem.run_map, g1, Result.andThen_ok, Sem.run_pure]
      obtain ⟨hmem, hmv⟩ := order_ok t1.1 hm hord hcl
      obtain ⟨_, hin, _⟩ := clsd_spec hcl
      refine ⟨S1, _, hrun, _, hmem, ?_⟩
      simp only [renL_one]
      exact oneR_ok (RepAs.ren _ _ (fun j hj => hmv j (hin j hj)) g3)
  · exact absurd hf (by simp)
theorem exitA_ok {id : Nat} : ∀ {k k' : List AI}, exitA id k = some k' → exitTo id (items k) = some (items k')
  | [], k', h => by simp [exitA] at h
  | .blk i :: k, k', h => by
    simp only [exitA] at h
    simp only [items, List.map_cons, AI.item, exitTo]
    rcases cond_cases h with ⟨hb, h2⟩ | ⟨hb, h2⟩
    · obtain rfl := beq_id hb
      clear h
      cases h2
      simp
    · have : (i == id) = false := by
        cases hc : (i == id) with
        | false => rfl
        | true => simp only [beq_iff_eq] at hc; subst hc; simp at hb
      rw [if_neg (by simpa using this)]
      exact exitA_ok h2
  | .c _ :: k, k', h => by simp only [exitA] at h; simp only [items, List.map_cons, AI.item, exitTo]; exact exitA_ok h
  | .j _ :: k, k', h => by simp only [exitA] at h; simp only [items, List.map_cons, AI.item, exitTo]; exact exitA_ok h
  | .lp _ :: k, k', h => by simp only [exitA] at h; simp only [items, List.map_cons, AI.item, exitTo]; exact exitA_ok h
  | .sc _ :: k, k', h => by simp only [exitA] at h; simp only [items, List.map_cons, AI.item, exitTo]; exact exitA_ok h

theorem step_scope' {P : Program} {b : Frame} {a : Act} {k : List Item} {cs : List Frame} {w : World} {c : Code} : step P (lone (b.at a (.code (.scope c) :: k)) cs w) = .next (lone (b.at a (.code c :: .inScope c :: k)) cs w) :=
  step_lone_go (by simp [stepG, stepG.exec, Frame.at])
theorem step_inScope' {P : Program} {b : Frame} {a : Act} {k : List Item} {cs : List Frame} {w : World} {c : Code} : step P (lone (b.at a (.inScope c :: k)) cs w) = .next (lone (b.at a k) cs w) :=
  step_lone_go (by simp [stepG, stepG.exec, Frame.at])

/-- what the handle says of labels is so -/
def LabsOK (Γ : Ctx) (w0 : World) (S0 : Addr → Prop) (X : XB) (fn : Func) (lab : Lab) : Prop := ∀ todo st res, lab todo st = some res → GoodAt Γ w0 S0 X fn (enterL todo) st res
theorem ev_ok (hP : tabOk Γ.P = true) (hZ : zeroOk Γ.P = true) {call : Handle} (hc : CallsOK Γ call) {f : FuncId} {fn : Func} (hX : X.roots.length = rootsOf Γ.roots f) (hf : Γ.P.funcs[f]? = some fn) {lab : Lab} (hl : LabsOK Γ w0 S0 X fn lab) :
    ∀ (n : Nat) (todo : List AI) (st : St) (res : AV × Objs), ev Γ call lab f fn.results.toList n todo st = some res → GoodAt Γ w0 S0 X fn todo st res
  | 0, todo, st, res, h => by simp [ev] at h
  | n + 1, todo, st, res, h => by
    have ih := ev_ok hP hZ hc hX hf hl n
    intro a w S σ hst b cs
    have ends : ∀ {todo' : List Item}, fin Γ.P (rootsOf Γ.roots f) (memF f Γ.outs) fn.results.toList st = some res → Steps Γ.P (lone (b.at a (items todo)) cs w) (lone { b.at a todo' with mode := .returning } cs w) → Fin Γ w0 S0 X fn b cs res (lone (b.at a (items todo)) cs w) := by
      intro todo' hfin hs
      obtain ⟨S', v, g1, g2⟩ := fin_ok hP hX hst hfin
      exact ⟨a, w, todo', S', v, hs, hst.defers, g1, g2⟩
    have atLab : ∀ {l : List Nat} {t : List AI}, (bif closedR (rootsOf Γ.roots f) l st then lab t (restrict (rootsOf Γ.roots f) l st) else none) = some res → ∀ {m : Machine}, Steps Γ.P m (lone (b.at a (items (enterL t))) cs w) → Fin Γ w0 S0 X fn b cs res m := by
      intro l t hlab m hs
      obtain ⟨h1, h2⟩ := cond_some hlab
      obtain ⟨σ', hst'⟩ := restrict_ok hX hst h1
      exact Fin.of_steps hs (hl _ _ _ h2 a w S σ' hst' b cs)
    cases todo with
    | nil =>
      simp only [ev] at h
      exact ends h (.one step_end)
    | cons i k =>
      cases i with
      | blk id =>
        simp only [ev] at h
        exact Fin.of_steps (.one step_inBlock) (ih k st res h a w S σ hst b cs)
      | sc c =>
        simp only [ev] at h
        exact Fin.of_steps (.one step_inScope') (ih k st res h a w S σ hst b cs)
      | lp c =>
        simp only [ev] at h
        split at h
        · exact atLab h (.one step_inLoop)
        · exact absurd h (by simp)
      | j c =>
        simp only [ev] at h
        split at h
        · exact atLab h (Steps.refl _ _)
        · exact absurd h (by simp)
      | c x =>
        simp only [ev] at h
        cases x <;> simp only at h <;> (try exact absurd h (by simp))
        case ret => exact ends h (.one step_ret)
        case skip => exact Fin.of_steps (.one step_skip) (ih k st res h a w S σ hst b cs)
        case label l => exact Fin.of_steps (.one step_label) (ih k st res h a w S σ hst b cs)
        case seq x y =>
          split at h
          · exact Fin.of_steps (.one step_seq) (ih _ st res h a w S σ hst b cs)
          · exact Fin.of_steps (.one step_seq) (ih _ st res h a w S σ hst b cs)
        case cond c x y =>
          split at h
          · rename_i t ht
            have hv := evo_ok hst c
            rw [ht] at hv
            simp only [RepA] at hv
            rcases cond_cases h with ⟨rfl, h⟩ | ⟨rfl, h⟩
            · exact Fin.of_steps (.one (step_cond hv)) (ih _ st res h a w S σ hst b cs)
            · exact Fin.of_steps (.one (step_cond hv)) (ih _ st res h a w S σ hst b cs)
          · exact absurd h (by simp)
        case block id c => exact Fin.of_steps (.one step_block) (ih _ st res h a w S σ hst b cs)
        case scope c => exact Fin.of_steps (.one step_scope') (ih _ st res h a w S σ hst b cs)
        case loop c =>
          split at h
          · exact atLab h (.one step_loop)
          · exact absurd h (by simp)
        case exit id =>
          split at h
          · rename_i k' hk
            exact Fin.of_steps (.one (step_exit (exitA_ok hk))) (ih _ st res h a w S σ hst b cs)
          · exact absurd h (by simp)
        case region id ops draw =>
          obtain ⟨hd, h8⟩ := cond_some h
          have hd' : ∀ o ∈ ops.toList, ∀ d, o.dst = some d → d < fn.ntmps := by
            intro o ho d hod
            unfold dstOk at hd
            rw [hf] at hd
            have := List.all_eq_true.1 hd o ho
            rw [hod] at this
            simpa [Nat.blt_eq] using this
          rcases cond_cases h8 with ⟨rfl, h9⟩ | ⟨rfl, h9⟩
          · obtain ⟨hcond, h9⟩ := cond_some h9
            simp only [Bool.and_eq_true] at hcond
            have t0 : Trans Γ w0 S0 X w S σ st.ob { w with drawn := w.drawn + 1 } S σ st.ob := hst.mem.same rfl
            have hst0 : StOK Γ w0 S0 X fn.ntmps st a { w with drawn := w.drawn + 1 } S σ := ⟨t0.1, fun t => t0.2 _ _ (hst.tm t), hst.size, hst.defers⟩
            obtain ⟨S2, hst1⟩ := frzT_ok hP (preAt Γ.pre f id) hst0
            have hw := drawn_ok (Q := fun e a' w' => e = .normal ∧ Fin Γ w0 S0 X fn b cs res (lone (b.at a' (items k)) cs w')) hP hZ hc (fun st' a' w' S' σ' hK hst' => ⟨rfl, ih k st' res hK a' w' S' σ' hst' b cs⟩) hd' hcond.1 hst1 h9
            obtain ⟨e, a', w', ⟨rfl, hfin⟩, harr⟩ := wp_region_any (id := id) hcond.2 hw b (items k) cs
            exact Fin.of_steps harr hfin
          · have hw := stepOps_ok (Q := fun e a' w' => e = .normal ∧ Fin Γ w0 S0 X fn b cs res (lone (b.at a' (items k)) cs w')) hP hZ hc (fun st' a' w' S' σ' hK hst' => ⟨rfl, ih k st' res hK a' w' S' σ' hst' b cs⟩) hd' ops.toList 0 rfl st a w S σ hst h9
            obtain ⟨e, a', w', ⟨rfl, hfin⟩, harr⟩ := wp_region hw b (items k) cs
            exact Fin.of_steps harr hfin
end
end Go.Proofs.Ytbdekjlnnbjicaa.V
