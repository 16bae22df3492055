/- Operations. Addresses: the very same one; made unsafe and back; the text that lies in a row. -/
import Derived.Test.YtjbemleloffafaaDoorFrAB
import Derived.Lib.UnsafeStr
import Derived.Lib.Builder
namespace Go.Proofs.YtjbemleloffafaaDoor.V
open Go
set_option linter.unusedVariables false
set_option linter.unusedSimpArgs false

section
variable {P : Program} {Γ : Ctx} {w0 : World} {S0 : Addr → Prop} {X : XB} {w w' : World} {S S' : Addr → Prop} {σ σ' : Loc} {ob ob' : Objs} {R : Type}

theorem eqP_spec : ∀ {p q : List Nat}, eqP p q = true → p = q
  | [], [], _ => rfl
  | a :: r, b :: s, h => by
    simp only [eqP, Bool.and_eq_true] at h
    rw [beq_id h.1, eqP_spec h.2]
  | [], _ :: _, h => by simp [eqP] at h
  | _ :: _, [], h => by simp [eqP] at h
theorem info_some {P : Program} {t : TypeId} (h : (P.info? t).isSome = true) : ∃ j, P.info? t = some j := Option.isSome_iff_exists.1 h
theorem run_eq_ptr_same {P : Program} (w : World) {tp te : TypeId} {j : TypeInfo} (a : Addr) (hp : P.underlying tp = some (.pointer te)) (hte : P.info? te = some j) :
    (binOp .eql tp (.pointer (some a)) (.pointer (some a))).run P w = .ok (.bool true) w := by
  have h : ∀ d : Nat, (Op.equalIn (d + 1) tp (.pointer (some a)) (.pointer (some a))).run P w = .ok true w := fun d => by
    simp [Op.equalIn, run_underlying hp, sizeOf, typeInfo, hte, run_sameAddr_same]
  simp only [binOp]
  simp [Op.equal, Op.maxDepth, h 9999]
theorem ptrEq_ok {op : BinOp} {t : TypeId} {x y : AV} {v u : Value} {K : AV → Option R} {r : R} (h : opPtrEq Γ.P op t x y ob K = some r) (h1 : RepA Γ.P w S σ ob x v) (h2 : RepA Γ.P w S σ ob y u) :
    ∃ av, K av = some r ∧ BinGood Γ.P w S σ ob op t v u av := by
  unfold opPtrEq at h
  split at h
  · rename_i j p t1 j' p' t2
    split at h
    · rename_i tb c e hob hd
      obtain ⟨hc, h9⟩ := cond_some h
      clear h
      simp only [Bool.and_eq_true] at hc
      obtain rfl := beq_id hc.1.1
      obtain rfl := eqP_spec hc.1.2
      obtain ⟨ji, hj⟩ := info_some hc.2
      simp only [RepA] at h1 h2
      obtain ⟨_, b, off, rfl, h1⟩ := h1
      obtain ⟨_, b', off', rfl, h2⟩ := h2
      obtain ⟨rfl, g1⟩ := h1 _ _ hob
      obtain ⟨rfl, g2⟩ := h2 _ _ hob
      rw [g1] at g2
      cases g2
      have hu := (und_lt (ds_some hd (by simp))).2
      split at h9
      · exact ⟨_, h9, .bool true, by simp only [RepA], fun xo yo => by
          simp only [Sem.run_bind, eqGuard]
          simp [run_eq_ptr_same w _ hu hj]⟩
      · exact ⟨_, h9, .bool false, by simp only [RepA], fun xo yo => by
          simp only [Sem.run_bind, eqGuard]
          simp [Lib.run_neq_ptr_same w _ hu hj]⟩
      · exact absurd h9 (by simp)
    · exact absurd h (by simp)
  · exact absurd h (by simp)

theorem lies_under {P : Program} {el u : TypeId} {count n : Nat} (hs : underId P el = underId P u) (hc : P.cellsOf el ≠ 0) (hn : n ≤ count) : liesAt P P.depth el count 0 u n = true := by
  have hd : P.depth = (2 * (P.types.size + Made.depth) + 1) + 1 := rfl
  have hs' : P.underlyingId el = P.underlyingId u := hs
  rw [hd]
  simp only [liesAt, Bool.or_eq_true]
  left
  rw [hd]
  simp [rowAt, hc, hn, sameLayout, hs']
theorem size_spec {P : Program} {t : TypeId} (h : sizeB P t = true) : ∃ j, P.info? t = some j ∧ j.size ≠ 0 := by
  unfold sizeB at h
  split at h
  · rename_i j hj
    simp only [Bool.not_eq_true'] at h
    exact ⟨j, hj, fun e => by rw [e] at h; simp at h⟩
  · simp at h
theorem ptrConv_ok (hP : tabOk Γ.P = true) (hM : MemOK Γ w0 S0 X w S σ ob) {src dst : TypeId} {x : AV} {vx : Value} {K : AV → Option R} {r : R} (hx : RepA Γ.P w S σ ob x vx) (h : opPtrConv Γ.P src dst x ob K = some r) :
    ∃ av, K av = some r ∧ ∃ cv, RepA Γ.P w S σ ob av cv ∧ (convert src dst vx).run Γ.P w = .ok cv w := by
  unfold opPtrConv at h
  split at h
  · rename_i j u
    split at h
    · rename_i tb c hob
      have hx' := hx
      simp only [RepA] at hx
      obtain ⟨_, b, off, rfl, hx⟩ := hx
      obtain ⟨rfl, ho⟩ := hx _ _ hob
      simp only [offP] at ho
      obtain ⟨_, _, ho⟩ := Option.map_eq_some_iff.1 ho
      cases ho
      have hO := hM.objs j _ hob
      simp only [ObjAt] at hO
      obtain ⟨vs, el, fr, hb, _, ⟨ht, hel, hce⟩, hl, _, _, _⟩ := hO
      have hsh : w.shape? (σ j).1 = some (el, vs.length) := by unfold World.shape?; rw [hb]; simp
      split at h
      · rename_i t hs hd
        obtain ⟨hc, h9⟩ := cond_some h
        clear h
        simp only [Bool.and_eq_true] at hc
        obtain ⟨ji, hj, hj0⟩ := size_spec hc.2
        have h0 : 0 < Γ.P.cellsOf tb := by simpa [Nat.blt_eq] using hc.1.2
        have hd := (und_lt (ds_some hd (by simp))).2
        exact ⟨_, h9, _, hx', Lib.run_to_unsafe w ⟨(σ j).1, 0, none⟩ (und_lt hs).2 hd hj hj0 hsh (by show 0 < vs.length; rw [hl]; exact h0)⟩
      · rename_i t hs hd
        obtain ⟨hc, h9⟩ := cond_some h
        clear h
        simp only [Bool.and_eq_true] at hc
        have htb := beq_id hc.1.1
        obtain ⟨ji, hj, hj0⟩ := size_spec hc.2
        have h0 : 0 < Γ.P.cellsOf tb := by simpa [Nat.blt_eq] using hc.1.2
        have hd := (und_lt (ds_some hd (by simp))).2
        refine ⟨_, h9, _, hx', Lib.run_from_unsafe w ⟨(σ j).1, 0, none⟩ (und_lt hs).2 hd hj hsh (lies_under (hel.trans htb) (by omega) ?_)⟩
        rw [hl, ← hce]
        exact Nat.le_of_eq (Nat.div_self (by omega)).symm
      · exact absurd h (by simp)
    · exact absurd h (by simp)
  · exact absurd h (by simp)

theorem ap_of_ref (hM : MemOK Γ w0 S0 X w S σ ob) {e e' : TypeId} {j : Nat} {xs : List D} {fz : Bool} {v : Value} (hob : ob[j]? = some (some (.arr e' xs fz))) (h : RepA Γ.P w S σ ob (.ref e j) v) :
    ∃ cap, v = .slice (some ⟨(σ j).1, 0, none⟩) xs.length cap ∧ xs.length ≤ cap ∧ e' = e ∧ RepA Γ.P w S σ ob (.ap j 0 [] (underId Γ.P e)) (.pointer (some ⟨(σ j).1, 0, none⟩)) := by
  simp only [RepA] at h ⊢
  obtain ⟨hl, b, n, cap, rfl, ha⟩ := h
  obtain ⟨rfl, rfl, rfl, rfl⟩ := ha _ _ _ hob
  have hO := hM.objs j _ hob
  simp only [ObjAt] at hO
  obtain ⟨cs, el, fr, hb, hnf, hcs, hle, hrow, ⟨⟨dd, hdd⟩, hel, hce⟩, hS⟩ := hO
  refine ⟨_, rfl, hle, rfl, hl, _, _, rfl, fun e2 xs2 fz2 h2 => ?_⟩
  rw [hob] at h2
  cases h2
  exact ⟨rfl, 0, by simp [offP, hdd], by simp⟩

theorem freeze_heap (a : Addr) (n b : Nat) (hb : b ≠ a.block) : (w.freeze a n).heap[b]? = w.heap[b]? := by
  unfold World.freeze
  split
  · rfl
  · simp only [Array.getElem?_modify]
    rw [if_neg (fun e => hb e.symm)]
theorem freeze_size (a : Addr) (n : Nat) : (w.freeze a n).heap.size = w.heap.size := by
  unfold World.freeze
  split
  · rfl
  · simp
theorem freeze_whole (a : Addr) (n : Nat) {b k : Nat} (h : Whole w b k) : Whole (w.freeze a n) b k := by
  obtain ⟨cs, el, fr, h1, h2⟩ := h
  by_cases hb : b = a.block
  · subst hb
    unfold World.freeze
    split
    · exact ⟨cs, el, fr, h1, h2⟩
    · obtain ⟨lo, hi⟩ := fr
      exact ⟨cs, el, _, by simp only [Array.getElem?_modify, if_true, h1]; rfl, h2⟩
  · exact ⟨cs, el, fr, (freeze_heap a n b hb).trans h1, h2⟩
theorem freeze_env (a : Addr) (n : Nat) : (w.freeze a n).os = w.os ∧ (w.freeze a n).output = w.output := by
  unfold World.freeze
  split <;> exact ⟨rfl, rfl⟩
theorem freeze_cell (a : Addr) (n : Nat) (x : Addr) : (w.freeze a n).cell? x = w.cell? x := by
  unfold World.freeze
  split
  · rfl
  · unfold World.cell?
    simp only [Array.getElem?_modify]
    by_cases hb : a.block = x.block
    · rw [if_pos hb]
      cases w.heap[x.block]? with
      | none => rfl
      | some o => cases o <;> rfl
    · rw [if_neg hb]
theorem run_loadInts : ∀ (l : List Int) (a : Addr) (acc : ByteArray), (∀ j n, l[j]? = some n → w.cell? (a.add j) = some (.int .u8 n)) →
    (loadBytes a acc l.length).run P w = .ok ⟨acc.data ++ (l.map fun n => UInt8.ofNat n.toNat).toArray⟩ w
  | [], a, acc, _ => by simp [loadBytes]
  | n :: l, a, acc, h => by
    have h0 : w.cell? a = some (.int .u8 n) := by
      have := h 0 n rfl
      simpa [Addr.add] using this
    have ih := run_loadInts l (a.add 1) (acc.push (UInt8.ofNat n.toNat)) (fun j y hy => by
      have := h (j + 1) y (by simpa using hy)
      have e : (a.add 1).add j = a.add (j + 1) := by
        unfold Addr.add
        by_cases hj : j = 0
        · subst hj; simp
        · simp [hj]; omega
      rw [e]; exact this)
    have hx : n.toNat.toUInt8 = UInt8.ofNat n.toNat := rfl
    simp only [List.length_cons, loadBytes, Sem.run_bind, run_load, h0, Result.andThen, hx]
    rw [ih]
    congr 1
    apply ByteArray.ext
    simp [ByteArray.push]
/-- unsafe.String over the head of a row of bytes -/
theorem run_unsafeStr (pt it ty e el : TypeId) (hp : P.underlying pt = some (.pointer e)) (g cells : Nat) (hsh : w.shape? g = some (el, cells)) (l : List Int) (h0 : l ≠ []) (hlies : liesAt P P.depth el (cells / P.cellsOf el) 0 e l.length = true) (h63 : l.length ≤ 9223372036854775807)
    (hcell : ∀ j x, l[j]? = some x → w.cell? ((⟨g, 0, none⟩ : Addr).add j) = some (.int .u8 x)) :
    (Builtin.unsafeString_ #[pt, it] ty #[.pointer (some ⟨g, 0, none⟩), .int .i64 l.length]).run P w = .ok (.string ⟨(l.map fun n => UInt8.ofNat n.toNat).toArray⟩) (w.freeze ⟨g, 0, none⟩ l.length) := by
  have hl : l.length ≠ 0 := by simpa using h0
  have hlb := run_loadInts (P := P) (w := w) l ⟨g, 0, none⟩ .empty hcell
  have h63' : ¬ (9223372036854775807 : Int) < (l.length : Int) := by omega
  change Sem.run P (bind (asInt (.int .i64 l.length)) _) w = _
  have hmax : IntKind.i64.max = 9223372036854775807 := rfl
  have hneg : ¬ (l.length : Int) < 0 := by omega
  simp [asInt, asIntOf, hmax, h63', hneg, hl, variablesAt, hsh, elemOf, run_underlying hp, hlies, hlb]
theorem onNil_ne {α : Type} {l : List α} {B : Option R} {r : R} (h : onNil l none B = some r) : l ≠ [] ∧ B = some r := by
  cases l with
  | nil => simp [onNil] at h
  | cons a l => exact ⟨by simp, h⟩
theorem sliceData_ok (hM : MemOK Γ w0 S0 X w S σ ob) {ts : List TypeId} {x : AV} {v : Value} {ty : TypeId} {K : AV → Objs → Option R} {r : R} (hx : RepA Γ.P w S σ ob x v) (h : opBuiltin Γ.P .unsafeSliceData ts [x] ob K = some r) :
    Out Γ w0 S0 X w S σ ob K r (Builtin.unsafeSliceData_ ts.toArray ty #[v]) := by
  simp only [opBuiltin] at h
  split at h
  · rename_i e j
    split at h
    · rename_i e' xs fz hob
      obtain ⟨hne, h9⟩ := onNil_ne h
      obtain ⟨cap, rfl, hle, rfl, hr⟩ := ap_of_ref hM hob hx
      have : 0 < xs.length := by cases xs with | nil => exact absurd rfl hne | cons _ _ => simp
      exact out_same hM h9 (Lib.run_unsafeSliceData_row w _ _ _ _ _ (by omega)) hr
    · exact absurd h (by simp)
  · simp only [RepA] at hx; subst hx
    exact out_same hM h (Lib.run_unsafeSliceData_nil w _ _ _ _) (by simp only [RepA])
  · simp only [RepA] at hx
    obtain ⟨a, cap, rfl, hc, _⟩ := hx
    simp only [CapOK] at hc
    obtain ⟨rfl, _, _⟩ := hc
    exact out_same hM h (Lib.run_unsafeSliceData_nil w _ _ _ _) (by simp only [RepA])
  · exact absurd h (by simp)
theorem uString_ok (hP : tabOk Γ.P = true) (hM : MemOK Γ w0 S0 X w S σ ob) {pt it : TypeId} {p : AV} {n : Int} {v : Value} {ty : TypeId} {K : AV → Objs → Option R} {r : R} (hx : RepA Γ.P w S σ ob p v) (h : opBuiltin Γ.P .unsafeString [pt, it] [p, .i .i64 n] ob K = some r) :
    Out Γ w0 S0 X w S σ ob K r (Builtin.unsafeString_ #[pt, it] ty #[v, .int .i64 n]) := by
  simp only [opBuiltin] at h
  split at h
  · obtain ⟨hn, h9⟩ := cond_some h
    have hn : n = 0 := by simpa using hn
    subst hn
    simp only [RepA] at hx; subst hx
    exact out_same hM h9 (Lib.run_unsafeString_none w _ _ _ _) (by simp only [RepA]; exact ⟨_, rfl, rfl⟩)
  · rename_i j u
    split at h
    · rename_i e0 hpt
      split at h
      · rename_i he0
        split at h
        · rename_i e xs fz hob
          obtain ⟨hc, h9⟩ := cond_some h
          clear h
          simp only [Bool.and_eq_true, decide_eq_true_eq] at hc
          obtain ⟨⟨hce0, hn⟩, h63⟩ := hc
          have hn : n = xs.length := by simpa using hn
          obtain rfl := beq_id hce0
          subst hn
          obtain ⟨hne, h9⟩ := onNil_ne h9
          unfold kBytes at h9
          cases hub : unBytes xs with
          | none => simp [hub] at h9
          | some l =>
            rw [hub] at h9
            simp only at h9
            have hd0 := ds_some he0 (by simp)
            have hpt := (und_lt (ds_some hpt (by simp))).2
            simp only [RepA] at hx
            obtain ⟨_, b, off, rfl, ha⟩ := hx
            obtain ⟨rfl, o, ho, rfl⟩ := ha _ _ _ hob
            simp only [offP] at ho
            obtain ⟨_, _, ho⟩ := Option.map_eq_some_iff.1 ho
            cases ho
            have hO := hM.objs j _ hob
            simp only [ObjAt] at hO
            obtain ⟨cs, el, fr, hb, hnf, hcs, hle, hrow, ⟨⟨dd, hdd⟩, hel, hce⟩, hS⟩ := hO
            obtain ⟨vs, g1, g2⟩ := RowV.flat hP hrow
            have g1 := RepFs.back hP hd0 g1
            have hlen := RepFs.size hP _ _ _ g1
            rw [sumCells_replicate, cells_int hP hd0, Nat.mul_one] at hlen
            obtain ⟨u1, u2, _, _⟩ := underId_spec hP hd0
            obtain ⟨ns, rfl, rfl⟩ := unBytes_spec g1 hub
            have hll : ns.length = xs.length := by simpa using hlen
            have hc1 : Γ.P.cellsOf el = 1 := by rw [hce, u2, cells_int hP hd0]
            have hsh : w.shape? (σ j).1 = some (el, cs.size) := by unfold World.shape?; rw [hb]
            have hrun := run_unsafeStr (w := w) (P := Γ.P) pt it ty e0 el hpt (σ j).1 cs.size hsh ns (by rintro rfl; apply hne; apply List.eq_nil_of_length_eq_zero; simpa using hll.symm) (lies_under hel (by omega) (by
              rw [hc1, Nat.div_one, hcs, u2, cells_int hP hd0, Nat.mul_one, hll]; exact hle)) (by rw [hll]; exact Int.ofNat_le.1 h63) (by
              intro q x hq
              have := g2 q (.int .u8 x) (by rw [List.getElem?_map, hq]; rfl)
              rw [Addr.add_lit]
              exact this)
            rw [hll] at hrun
            have hown := hM.own j _ hob
            have t1 := hM.kill j
            have t2 := t1.1.touch (w' := w.freeze ⟨(σ j).1, 0, none⟩ xs.length) (b := (σ j).1) hown.1 (fun k o hk => by
              obtain ⟨h1, h2⟩ := get_kill hk
              exact hM.apart k j _ _ h2 hob h1) (fun b' hb' => freeze_heap _ _ _ hb') (freeze_size _ _) (fun a ha => ⟨freeze_cell _ _ _, ha⟩) (fun n hn => freeze_whole _ _ hn) (freeze_env _ _)
            refine ⟨_, _, h9, .string ⟨(ns.map fun n => UInt8.ofNat n.toNat).toArray⟩, w.freeze ⟨(σ j).1, 0, none⟩ xs.length, S, σ, ?_, t1.trans t2, ?_⟩
            · simp only [Nat.zero_mul, Nat.zero_add]
              exact hrun
            · simp only [RepA]
              exact ⟨_, by simp, rfl⟩
        · exact absurd h (by simp)
      · exact absurd h (by simp)
    · exact absurd h (by simp)
  · exact absurd h (by simp)
end
end Go.Proofs.YtjbemleloffafaaDoor.V
