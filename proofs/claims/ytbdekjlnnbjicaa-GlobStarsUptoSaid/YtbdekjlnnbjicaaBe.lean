/- FrQ: texts of this claim, put together in build order by program. -/
import Derived.Test.YtbdekjlnnbjicaaBd
import Derived.Deep.AppendSrc
/- Operations. Part eight: append. -/
namespace Go.Proofs.Ytbdekjlnnbjicaa.V
open Go
set_option linter.unusedVariables false
set_option linter.unusedSimpArgs false

section
variable {Γ : Ctx} {w0 : World} {S0 : Addr → Prop} {X : XB} {w w' : World} {S S' : Addr → Prop} {σ σ' : Loc} {ob ob' : Objs} {R : Type}

/-- a row's cells, in one list -/
theorem RowV.flat {P : Program} (hP : tabOk P = true) : ∀ {xs : List D} {e : TypeId} {b o : Nat}, RowV P w S xs e b o → ∃ vs, RepFs P w S xs (List.replicate xs.length e) vs ∧ w.rangeAt b o vs
  | [], e, b, o, h => ⟨[], by simp [RepFs], fun j v hv => by simp at hv⟩
  | d :: r, e, b, o, h => by
    simp only [RowV] at h
    obtain ⟨v1, h1, h2, h3⟩ := h
    obtain ⟨v2, h4, h5⟩ := RowV.flat hP h3
    have hs := RepT.size hP _ _ _ h2
    refine ⟨v1 ++ v2, ?_, fun j v hv => ?_⟩
    · simp only [List.length_cons, List.replicate_succ, RepFs]
      exact ⟨e, _, v1, v2, rfl, rfl, h2, h4⟩
    · rcases Nat.lt_or_ge j v1.length with hj | hj
      · rw [List.getElem?_append_left hj] at hv; exact h1 j v hv
      · rw [List.getElem?_append_right hj] at hv
        have := h5 _ v hv
        rw [show o + P.cellsOf e + (j - v1.length) = o + j by omega] at this
        exact this
theorem RepFs.back {P : Program} (hP : tabOk P = true) {e : TypeId} {d : TypeDesc} (he : und P e = some d) : ∀ {xs : List D} {n : Nat} {vs : List Value}, RepFs P w S xs (List.replicate n (underId P e)) vs → RepFs P w S xs (List.replicate n e) vs
  | [], 0, vs, h => by simpa [RepFs] using h
  | [], n + 1, vs, h => by simp [RepFs] at h
  | x :: r, 0, vs, h => by simp [RepFs] at h
  | x :: r, n + 1, vs, h => by
    simp only [List.replicate_succ, RepFs] at h ⊢
    obtain ⟨t, ts', v1, v2, h1, rfl, h3, h4⟩ := h
    cases h1
    exact ⟨e, _, v1, v2, rfl, rfl, h3.back hP ⟨_, he⟩, RepFs.back hP he h4⟩
theorem RepFs.app {P : Program} : ∀ {xs ys : List D} {ts us : List TypeId} {vs ws : List Value}, RepFs P w S xs ts vs → RepFs P w S ys us ws → RepFs P w S (xs ++ ys) (ts ++ us) (vs ++ ws)
  | [], ys, ts, us, vs, ws, h, h' => by
    simp only [RepFs] at h
    obtain ⟨rfl, rfl⟩ := h
    simpa using h'
  | x :: r, ys, ts, us, vs, ws, h, h' => by
    simp only [RepFs, List.cons_append] at h ⊢
    obtain ⟨t, ts', v1, v2, rfl, rfl, h3, h4⟩ := h
    exact ⟨t, ts' ++ us, v1, v2 ++ ws, rfl, by simp, h3, RepFs.app h4 h'⟩
theorem bytesD_fs {P : Program} {e : TypeId} (he : und P e = some (.int .u8)) : ∀ (l : List UInt8), RepFs P w S (bytesD l) (List.replicate (bytesD l).length e) (l.map fun b => Value.int .u8 b.toNat)
  | [] => by simp [bytesD, RepFs]
  | c :: r => by
    have ih := bytesD_fs he r
    simp only [bytesD, List.map_cons, List.length_cons, List.replicate_succ, RepFs] at ih ⊢
    exact ⟨e, _, [_], _, rfl, rfl, by simp [RepT, he], ih⟩

theorem src_ok (hP : tabOk Γ.P = true) (hM : MemOK Γ w0 S0 X w S σ ob) {tx e0 : TypeId} {d : TypeDesc} {x : AV} {vx : Value} {ys : List D} (he : und Γ.P e0 = some d)
    (hk : (∃ e', Γ.P.underlying tx = some (.slice e')) ∨ Γ.P.underlying tx = some .string)
    (h : elems Γ.P (underId Γ.P e0) ob x = some ys) (hx : RepA Γ.P w S σ ob x vx) :
    ∃ news, Src Γ.P (Γ.P.cellsOf e0) tx vx ys.length news w ∧ RepFs Γ.P w S ys (List.replicate ys.length e0) news := by
  obtain ⟨u1, u2, _, u4⟩ := underId_spec hP he
  have mk : ∀ {a : Addr} {n c : Nat} {news : List Value}, news.length = n * Γ.P.cellsOf e0 → (∀ (j : Nat) (u : Value), news[j]? = some u → w.cell? (a.add j) = some u) → (∀ u ∈ news, u.oneCell' = true) →
      Src Γ.P (Γ.P.cellsOf e0) tx (.slice (some a) n c) n news w := fun {a n c news} h1 h2 h3 =>
    ⟨hk, fun _ => rfl, run_firstCells_some w _ n a n c news h1 h2, run_firstCells_some w.drew _ n a n c news h1 (by simpa using h2), h1, h3⟩
  have mk0 : ∀ {a : Option Addr} {c : Nat}, Src Γ.P (Γ.P.cellsOf e0) tx (.slice a 0 c) 0 [] w := fun {a c} => by
    cases a with
    | none => exact ⟨hk, fun _ => rfl, run_firstCells_none w _ 0 0 c, run_firstCells_none w.drew _ 0 0 c, by simp, fun _ h => by cases h⟩
    | some a => exact mk (by simp) (fun j u hu => by simp at hu) (fun _ h => by cases h)
  cases x <;> simp only [elems] at h
  case snil =>
    cases h
    simp only [RepA] at hx; subst hx
    exact ⟨[], mk0, by simp [RepFs]⟩
  case sl e' c xs =>
    obtain ⟨hb, h2⟩ := cond_some h
    obtain rfl := beq_id hb
    clear h
    cases h2
    simp only [RepA] at hx
    obtain ⟨a, cap, rfl, hc, hr⟩ := hx
    rcases hr with rfl | ⟨b, o, rfl, hr⟩
    · exact ⟨[], mk0, by simp [RepFs]⟩
    · obtain ⟨vs, h1, h2⟩ := RowV.flat hP hr.toV
      have h1 := RepFs.back hP he h1
      have hs := RepFs.size hP _ _ _ h1
      rw [sumCells_replicate] at hs
      exact ⟨vs, mk hs (fun j u hu => by rw [Addr.add_lit]; exact h2 j u hu) (RepFs.one _ _ _ h1), h1⟩
  case ref e' j =>
    obtain ⟨hb, h2⟩ := cond_some h
    obtain rfl := beq_id hb
    clear h
    split at h2
    · rename_i e1 xs fz hob
      cases h2
      simp only [RepA] at hx
      obtain ⟨_, b, n, cap, rfl, ha⟩ := hx
      obtain ⟨rfl, rfl, rfl, rfl⟩ := ha _ _ _ hob
      have hO := hM.objs j _ hob
      simp only [ObjAt] at hO
      obtain ⟨cs, el, fr, hb, hnf, hcs, hle, hrow, hel, hS⟩ := hO
      obtain ⟨vs, h1, h2⟩ := RowV.flat hP hrow
      have h1 := RepFs.back hP he h1
      have hs := RepFs.size hP _ _ _ h1
      rw [sumCells_replicate] at hs
      exact ⟨vs, mk hs (fun j u hu => by rw [Addr.add_lit]; exact h2 j u hu) (RepFs.one _ _ _ h1), h1⟩
    · exact absurd h2 (by simp)
  case s l =>
    split at h
    · rename_i hd
      cases h
      have hu := ds_some hd (by simp)
      have hu : und Γ.P e0 = some (.int .u8) := by rw [he]; rw [u1] at hu; exact hu
      simp only [RepA] at hx
      obtain ⟨s, rfl, rfl⟩ := hx
      have hc := cells_int hP hu
      refine ⟨byteCells s, ?_, bytesD_fs hu _⟩
      have hlen : (bytesD s.data.toList).length = s.size := by rw [size_len]; simp [bytesD]
      rw [hlen, hc]
      exact ⟨hk, fun _ => rfl, firstCells_string s w, firstCells_string s w.drew, by rw [byteCells_length, Nat.mul_one], fun u hu => by
        obtain ⟨_, _, rfl⟩ := List.mem_map.1 hu
        rfl⟩
    · exact absurd h (by simp)
  all_goals exact absurd h (by simp)

/-- (e) cells turn in a block that no object has -/
theorem MemOK.touch (h : MemOK Γ w0 S0 X w S σ ob) {b : Nat} (hX : X b ∨ w0.heap.size ≤ b) (hd : ∀ j o, ob[j]? = some (some o) → (σ j).1 ≠ b)
    (hb : ∀ b', b' ≠ b → w'.heap[b']? = w.heap[b']?) (hg : w'.heap.size = w.heap.size) (hk : Keeps w S w' S) (hwh : ∀ n, Whole w b n → Whole w' b n) (he : w'.os = w.os ∧ w'.output = w.output := by exact ⟨rfl, rfl⟩) : Trans Γ w0 S0 X w S σ ob w' S σ ob := by
  refine ⟨?_, fun a v r => RepA.keep hk (Stays.refl σ ob) a v r, hk⟩
  refine { objs := ?_, apart := h.apart, own := ?_, old := ?_, grow := by rw [hg]; exact h.grow, s0 := h.s0, snew := h.snew, sin := ?_, glob := ?_, env := ⟨he.1.trans h.env.1, he.2.trans h.env.2⟩, kept := h.kept.trans hk, root := h.root }
  · intro i x hx
    exact (h.objs i x hx).keep hk (Stays.refl σ ob) rfl (hb _ (hd i x hx)) fun y hy _ => hy
  · intro i x hx; rw [hg]; exact h.own i x hx
  · intro b' hb0 hX'
    rw [hb b' ?_, h.old b' hb0 hX']
    rintro rfl
    rcases hX with hx | hx
    · exact hX' hx
    · omega
  · intro a ha; rw [hg]; exact h.sin a ha
  · refine ⟨fun g t x hx => ?_, fun g hg => (h.glob.ifs g hg).keep hk⟩
    obtain ⟨vs, h1, h2⟩ := h.glob.data g t x hx
    refine ⟨vs, h1.keep hk, RepT.keep hk _ _ _ h2.1, fun fs hf => ?_⟩
    have h2 := h2.2 fs hf
    by_cases hgb : g = b
    · subst hgb; exact hwh _ h2
    · exact h2.same (hb g hgb)
/-- what is known of an append's list and of its type -/
theorem grow_ok (hP : tabOk Γ.P = true) (hZ : zeroOk Γ.P = true) (hM : MemOK Γ w0 S0 X w S σ ob) {t tx ty e0 : TypeId} {d : TypeDesc} (hs : und Γ.P t = some (.slice e0)) (he : und Γ.P e0 = some d)
    (hfit : fits Γ.P e0 (zeroA Γ.P depth e0) = true) (fz : Bool) {base : Option Addr} {cap : Nat} {xs ys : List D} {olds news : List Value}
    (hold : (Builtin.firstCells (Γ.P.cellsOf e0) xs.length (.slice base xs.length cap)).run Γ.P w.drew = .ok olds.toArray w.drew) (hxs : RepFs Γ.P w S xs (List.replicate xs.length e0) olds)
    {vx : Value} (hsrc : Src Γ.P (Γ.P.cellsOf e0) tx vx ys.length news w) (hys : RepFs Γ.P w S ys (List.replicate ys.length e0) news)
    (hg : cap < xs.length + ys.length) (hroom : roomB (xs.length + ys.length) (Γ.P.bytesOf e0) = true) :
    ∃ w' σ' cv, (Builtin.append_ #[t, tx] ty #[.slice base xs.length cap, vx]).run Γ.P w = .ok cv w' ∧ Trans Γ w0 S0 X w S σ ob w' S σ' (ob ++ [some (.arr (underId Γ.P e0) (xs ++ ys) fz)]) ∧
      RepA Γ.P w' S σ' (ob ++ [some (.arr (underId Γ.P e0) (xs ++ ys) fz)]) (.ref (underId Γ.P e0) ob.length) cv := by
  obtain ⟨hb, hb1, hb2⟩ := roomB_spec hroom
  obtain ⟨i, hi⟩ := info_of_und he
  have hsz : i.size = Γ.P.cellsOf e0 := by have := size_of_und he; rw [hi] at this; simpa using this
  have hby : i.bytes = Γ.P.bytesOf e0 := by simp [Program.bytesOf, hi]
  obtain ⟨z, hz, hzb⟩ := zero_ok (w := w) (S := S) (σ := σ) (ob := ob) hP hZ hfit
  have hz' : i.zero = some z := by
    unfold zeroValue typeInfo at hz
    simp only [Sem.run_bind, run_program, Result.andThen_ok, hi, Sem.run_pure] at hz
    cases hq : i.zero with
    | none => simp [hq] at hz
    | some v => simp only [hq, Sem.run_pure, Result.ok.injEq, and_true] at hz; rw [hz]
  have hzs := (BV.size hP hzb).1
  have hlo := RepFs.size hP _ _ _ hxs
  have hln := RepFs.size hP _ _ _ hys
  rw [sumCells_replicate] at hlo hln
  have hge := grownCap_ge w (xs.length + ys.length) cap e0
  have hr := run_append_grow_src (P := Γ.P) w t tx ty e0 i z (und_lt hs).2 hi hz' base xs.length cap olds (by rw [hsz]; exact hold) vx ys.length news (by rw [hsz]; exact hsrc) hg (by omega)
    (growslice_fits hg (by rw [hby]; omega))
  have happ : RepFs Γ.P w S (xs ++ ys) (List.replicate (xs ++ ys).length e0) (olds ++ news) := by
    rw [List.length_append, ← List.replicate_append_replicate]
    exact RepFs.app hxs hys
  obtain ⟨σ', t2, hrep⟩ := newArr_ok (w' := w.drew.alloc (.cells ((olds ++ news).toArray ++ Builtin.zeroCells z.cells (grownCap w (xs.length + ys.length) cap e0 - (xs.length + ys.length))) e0))
    (cap := grownCap w (xs.length + ys.length) cap e0) hP hM fz he rfl (by
      have h1 : z.cells.size = Γ.P.cellsOf e0 := by simpa using hzs
      simp only [Array.size_append, List.size_toArray, size_zeroCells, List.length_append, hlo, hln, h1, ← Nat.add_mul]
      congr 1; omega) (by rw [List.length_append]; exact hge) happ (fun j v hj => by
        rw [Array.toList_append, List.getElem?_append_left (by simpa using getL hj)]; exact hj)
  rw [List.length_append] at hrep
  exact ⟨_, σ', _, hr, t2, hrep⟩
theorem onNil_some {α : Type} {l : List α} {A B : Option R} {r : R} (h : onNil l A B = some r) : (l = [] ∧ A = some r) ∨ (l ≠ [] ∧ B = some r) := by
  cases l with
  | nil => exact .inl ⟨rfl, h⟩
  | cons a q => exact .inr ⟨by simp, h⟩
/-- nothing is appended -/
theorem nothing_ok {t tx ty e0 : TypeId} {d : TypeDesc} (hs : und Γ.P t = some (.slice e0)) (he : und Γ.P e0 = some d) {base : Option Addr} {n cap : Nat} (hcap : n ≤ cap) {vx : Value} {news : List Value}
    (hsrc : Src Γ.P (Γ.P.cellsOf e0) tx vx 0 news w) : (Builtin.append_ #[t, tx] ty #[.slice base n cap, vx]).run Γ.P w = .ok (.slice base n cap) w := by
  obtain ⟨i, hi⟩ := info_of_und he
  have hsz : i.size = Γ.P.cellsOf e0 := by have := size_of_und he; rw [hi] at this; simpa using this
  have hn : news = [] := List.eq_nil_of_length_eq_zero (by rw [hsrc.newsLen]; simp)
  subst hn
  have hc := hsrc.cells
  rw [← hsz] at hc
  rcases hsrc.kind with ⟨e', hk⟩ | hk <;> cases base <;>
    simp [Builtin.append_, run_underlying (und_lt hs).2, run_underlying hk, sizeOf, typeInfo, hi, hsrc.len, hcap, hc, storeCells]
theorem append_ok (hP : tabOk Γ.P = true) (hZ : zeroOk Γ.P = true) (hM : MemOK Γ w0 S0 X w S σ ob) {t tx ty : TypeId} {s x : AV} {vs vx : Value} {K : AV → Objs → Option R} {r : R}
    (hk : (∃ e', Γ.P.underlying tx = some (.slice e')) ∨ Γ.P.underlying tx = some .string) (hs : RepA Γ.P w S σ ob s vs) (hx : RepA Γ.P w S σ ob x vx)
    (h : opAppend Γ.P t s x ob K = some r) : Out Γ w0 S0 X w S σ ob K r (Builtin.append_ #[t, tx] ty #[vs, vx]) := by
  unfold opAppend at h
  split at h
  · rename_i e0 hd
    have hu := ds_some hd (by simp)
    obtain ⟨d, he⟩ := elem_slice hP hu
    obtain ⟨u1, u2, _, u4⟩ := underId_spec hP he
    obtain ⟨hfit, hh⟩ := cond_some h
    clear h
    have h := hh
    clear hh
    split at h
    · exact absurd h (by simp)
    · rename_i ys hys
      obtain ⟨news, hsrc, hfs⟩ := src_ok hP hM he hk hys hx
      have fresh : ∀ (v : Value), v = .slice none 0 0 → RepA Γ.P w S σ ob s v → (onNil ys (K s ob) (bif roomB ys.length (Γ.P.bytesOf e0) then K (.ref (underId Γ.P e0) ob.length) (ob ++ [some (.arr (underId Γ.P e0) ys false)]) else none) = some r) →
          Out Γ w0 S0 X w S σ ob K r (Builtin.append_ #[t, tx] ty #[v, vx]) := by
        rintro v rfl hrep h
        rcases onNil_some h with ⟨rfl, h⟩ | ⟨hne, h⟩
        · exact out_same hM h (nothing_ok hu he (Nat.le_refl _) hsrc) hrep
        · obtain ⟨hroom, h⟩ := cond_some h
          have hpos : 0 < ys.length := List.length_pos_iff.2 hne
          obtain ⟨w', σ', cv, h1, h2, h3⟩ := grow_ok (ty := ty) (xs := []) (olds := []) (base := none) (cap := 0) hP hZ hM hu he hfit false (run_firstCells_none _ _ _ _ _) (by simp [RepFs]) hsrc hfs (by simpa using hpos) (by simpa using hroom)
          exact ⟨_, _, h, cv, w', S, σ', h1, h2, h3⟩
      split at h
      · exact fresh _ (by simpa only [RepA] using hs) hs h
      · simp only [RepA] at hs
        obtain ⟨a, cap, rfl, hc, hr⟩ := hs
        simp only [CapOK] at hc
        obtain ⟨rfl, _, rfl⟩ := hc
        exact fresh _ rfl (by simp only [RepA]; exact ⟨none, 0, rfl, ⟨rfl, rfl, rfl⟩, .inl trivial⟩) h
      · rename_i e' xs
        simp only [RepA] at hs
        obtain ⟨a, cap, rfl, hc, hr⟩ := hs
        have hc2 := hc
        simp only [CapOK] at hc2
        obtain ⟨hsome, rfl⟩ := hc2
        rcases onNil_some h with ⟨rfl, h⟩ | ⟨hne, h⟩
        · exact out_same hM h (nothing_ok hu he (Nat.le_refl _) hsrc) (by simp only [RepA]; exact ⟨a, _, rfl, hc, hr⟩)
        · obtain ⟨hcond, h9⟩ := cond_some h
          clear h
          simp only [Bool.and_eq_true] at hcond
          obtain rfl := beq_id hcond.1
          have hpos : 0 < ys.length := List.length_pos_iff.2 hne
          obtain ⟨olds, ho1, ho2⟩ : ∃ olds, (Builtin.firstCells (Γ.P.cellsOf e0) xs.length (.slice a xs.length xs.length)).run Γ.P w.drew = .ok olds.toArray w.drew ∧ RepFs Γ.P w S xs (List.replicate xs.length e0) olds := by
            obtain ⟨a', rfl⟩ := Option.isSome_iff_exists.1 hsome
            rcases hr with rfl | ⟨b, o, hab, hr⟩
            · exact ⟨[], run_firstCells_some w.drew _ 0 _ _ _ [] (by simp) (fun j u hu => by simp at hu), by simp [RepFs]⟩
            · cases hab
              obtain ⟨vs, h1, h2⟩ := RowV.flat hP hr.toV
              have h1 := RepFs.back hP he h1
              have hs := RepFs.size hP _ _ _ h1
              rw [sumCells_replicate] at hs
              exact ⟨vs, run_firstCells_some w.drew _ _ _ _ _ vs hs (fun j u hu => by rw [Addr.add_lit]; exact h2 j u hu), h1⟩
          obtain ⟨w', σ', cv, h1, h2, h3⟩ := grow_ok (ty := ty) (xs := xs) (olds := olds) (base := a) (cap := xs.length) hP hZ hM hu he hfit false ho1 ho2 hsrc hfs (by omega) hcond.2
          exact ⟨_, _, h9, cv, w', S, σ', h1, h2, h3⟩
      · rename_i e' xs
        simp only [RepA] at hs
        obtain ⟨a, cap, rfl, hc, hr⟩ := hs
        have hc2 := hc
        simp only [CapOK] at hc2
        obtain ⟨rfl, hnone⟩ := hc2
        rcases onNil_some h with ⟨rfl, h⟩ | ⟨hne, h⟩
        · exact out_same hM h (nothing_ok hu he (Nat.le_refl _) hsrc) (by simp only [RepA]; exact ⟨a, _, rfl, hc, hr⟩)
        · obtain ⟨hcond, h9⟩ := cond_some h
          clear h
          simp only [Bool.and_eq_true] at hcond
          obtain rfl := beq_id hcond.1
          have hpos : 0 < ys.length := List.length_pos_iff.2 hne
          obtain ⟨olds, ho1, ho2⟩ : ∃ olds, (Builtin.firstCells (Γ.P.cellsOf e0) xs.length (.slice a xs.length xs.length)).run Γ.P w.drew = .ok olds.toArray w.drew ∧ RepFs Γ.P w S xs (List.replicate xs.length e0) olds := by
            rcases hr with rfl | ⟨b, o, hab, hr⟩
            · cases a with
              | none => exact ⟨[], run_firstCells_none _ _ _ _ _, by simp [RepFs]⟩
              | some a' => exact ⟨[], run_firstCells_some w.drew _ 0 _ _ _ [] (by simp) (fun j u hu => by simp at hu), by simp [RepFs]⟩
            · cases hab
              obtain ⟨vs, h1, h2⟩ := RowV.flat hP hr.toV
              have h1 := RepFs.back hP he h1
              have hs := RepFs.size hP _ _ _ h1
              rw [sumCells_replicate] at hs
              exact ⟨vs, run_firstCells_some w.drew _ _ _ _ _ vs hs (fun j u hu => by rw [Addr.add_lit]; exact h2 j u hu), h1⟩
          obtain ⟨w', σ', cv, h1, h2, h3⟩ := grow_ok (ty := ty) (xs := xs) (olds := olds) (base := a) (cap := xs.length) hP hZ hM hu he hfit false ho1 ho2 hsrc hfs (by omega) hcond.2
          exact ⟨_, _, h9, cv, w', S, σ', h1, h2, h3⟩
      · rename_i e' j
        split at h
        · rename_i e1 xs fz hob
          obtain ⟨hcond, h9⟩ := cond_some h
          clear h
          simp only [Bool.and_eq_true] at hcond
          obtain rfl := beq_id hcond.1
          simp only [RepA] at hs
          obtain ⟨_, b, n, cap, rfl, ha⟩ := hs
          obtain ⟨rfl, rfl, rfl, rfl⟩ := ha _ _ _ hob
          have hO := hM.objs j _ hob
          simp only [ObjAt] at hO
          obtain ⟨cs, el, fr, hb, hnf, hcs, hle, hrow, hel, hS⟩ := hO
          have hown := hM.own j _ hob
          have t1 := hM.kill j
          obtain ⟨olds, ho1, ho2⟩ := RowV.flat hP hrow
          have ho1 := RepFs.back hP he ho1
          have hlo := RepFs.size hP _ _ _ ho1
          rw [sumCells_replicate] at hlo
          have hln := hsrc.newsLen
          rw [u2] at hcs hS
          by_cases hg : xs.length + ys.length ≤ (σ j).2
          · let b := (σ j).1
            let w1 := w.setCells b (0 + xs.length * Γ.P.cellsOf e0) news
            have hcsz : 0 + xs.length * Γ.P.cellsOf e0 + news.length ≤ cs.size := by rw [hcs, hln, Nat.zero_add, ← Nat.add_mul]; exact Nat.mul_le_mul_right _ hg
            obtain ⟨i, hi⟩ := info_of_und he
            have hsz : i.size = Γ.P.cellsOf e0 := by have := size_of_und he; rw [hi] at this; simpa using this
            have hrun := run_append_room_src (P := Γ.P) w t tx ty e0 i (und_lt hu).2 hi b 0 xs.length (σ j).2 vx ys.length news (by rw [hsz]; exact hsrc) hg
              (fun k hk => by
                rw [hsz]
                simp only [World.cell?, b, hb, Option.isSome_none, Bool.false_eq_true, if_false]
                rw [Array.getElem?_eq_getElem (by omega)]; rfl)
              (fun k hk => by
                rw [hsz]
                have := hnf (0 + xs.length * Γ.P.cellsOf e0 + k) (by omega)
                simp only [World.frozen?, b, hb]
                simpa using this)
            rw [hsz] at hrun
            have hw1 : w1.heap[b]? = some (.cells (putCs cs.toList (0 + xs.length * Γ.P.cellsOf e0) news).toArray el fr) := setCells_heap news _ w cs.toList el fr (by simpa using hb) (by simpa using hcsz)
            have hk1 : Keeps w S w1 S := fun y hy => ⟨by
              by_cases hyb : y.block = b
              · obtain ⟨_, hoff, hsp⟩ := hS y hy hyb
                obtain ⟨yb, yo, ysp⟩ := y
                simp only at hyb hoff hsp
                subst hyb; subst hsp
                simp only [World.cell?, hw1, b, hb, Option.isSome_none, Bool.false_eq_true, if_false]
                simp only [List.getElem?_toArray, putCs]
                rw [List.append_assoc, List.getElem?_append_left (by simp; omega), List.getElem?_take]
                rw [if_pos (by omega)]; simp
              · exact cell_of_heap (setCells_heap_ne hyb news _ w), hy⟩
            have hne : ∀ (k : Nat) (o : Obj), (ob.set j none)[k]? = some (some o) → (σ k).1 ≠ b := fun k o hk => by
              obtain ⟨h1, h2⟩ := get_kill hk
              exact hM.apart k j _ _ h2 hob h1
            have t2 : Trans Γ w0 S0 X w S σ (ob.set j none) w1 S σ (ob.set j none) := t1.1.touch hown.1 hne (fun b' hb' => setCells_heap_ne hb' news _ w) (setCells_size news _ w) hk1 (fun n hn => by
              obtain ⟨cs0, el0, fr0, q1, q2⟩ := hn
              rw [hb] at q1
              cases q1
              exact ⟨_, _, _, hw1, by rw [← q2]; simp only [putCs, List.size_toArray, List.length_append, List.length_take, List.length_drop, Array.length_toList]; omega⟩) (setCells_env news _ w)
            have hpre : ∀ n, n < 0 + xs.length * Γ.P.cellsOf (underId Γ.P e0) → w1.cell? ⟨b, n, none⟩ = w.cell? ⟨b, n, none⟩ := fun n hn => by
              rw [u2] at hn
              simp only [World.cell?, hw1, b, hb, Option.isSome_none, Bool.false_eq_true, if_false]
              simp only [List.getElem?_toArray, putCs]
              rw [List.append_assoc, List.getElem?_append_left (by simp; omega), List.getElem?_take]
              rw [if_pos (by omega)]; simp
            have hrow1 : RowV Γ.P w1 S xs (underId Γ.P e0) b 0 := RowV.keepIn hk1 hP hpre hrow
            have hrow2 : RowV Γ.P w1 S ys e0 b (0 + xs.length * Γ.P.cellsOf e0) := RowV.ofFs hP (RepFs.keep hk1 _ _ _ hfs) (fun q v hq => by
              have hql := getL hq
              simp only [World.cell?, hw1, Option.isSome_none, Bool.false_eq_true, if_false]
              simp only [List.getElem?_toArray, putCs]
              rw [List.append_assoc, List.getElem?_append_right (by simp; omega), List.getElem?_append_left (by simp; omega)]
              rw [← hq]; congr 1; simp; omega)
            have hrow : RowV Γ.P w1 S (xs ++ ys) (underId Γ.P e0) b 0 := RowV.append hrow1 (by rw [u2]; exact hrow2.under hP he)
            have t3 := t2.1.add (o := .arr (underId Γ.P e0) (xs ++ ys) fz) (b := b) (c := (σ j).2) (by rw [setCells_size]; exact hown.2) hown.1 hne (by
              simp only [ObjAt, more_new]
              refine ⟨_, el, fr, hw1, fun o ho => hnf o ?_, ?_, by rw [List.length_append]; exact hg, hrow, hel, fun y hy hyb => ?_⟩
              · have hl1 : (putCs cs.toList (0 + xs.length * Γ.P.cellsOf e0) news).toArray.size = cs.size := by simp [putCs]; omega
                rw [hl1] at ho; exact ho
              · have hl1 : (putCs cs.toList (0 + xs.length * Γ.P.cellsOf e0) news).toArray.size = cs.size := by simp [putCs]; omega
                rw [hl1, u2, hcs]
              · obtain ⟨h1, h2, h3⟩ := hS y hy hyb
                exact ⟨h1, by rw [u2, List.length_append, Nat.add_mul]; omega, h3⟩)
            rw [List.length_set] at t3
            refine ⟨_, _, h9, _, w1, S, _, hrun, (t1.trans t2).trans t3, ?_⟩
            simp only [RepA]
            refine ⟨by simp, b, _, _, rfl, fun e' xs' fz' hc => ?_⟩
            rcases get_more hc with ⟨hl, _⟩ | ⟨_, he'⟩
            · rw [List.length_set] at hl; omega
            · cases he'
              rw [more_new, List.length_append]
              exact ⟨rfl, rfl, rfl, rfl⟩
          · obtain ⟨w', σ', cv, h1, h2, h3⟩ := grow_ok (ty := ty) (xs := xs) (olds := olds) (base := some ⟨(σ j).1, 0, none⟩) (cap := (σ j).2) hP hZ t1.1 hu he hfit fz
              (run_firstCells_some w.drew _ _ _ _ _ olds hlo (fun k u hu => by rw [Addr.add_lit]; exact ho2 k u hu)) ho1 hsrc hfs (by omega) hcond.2
            rw [List.length_set] at h3
            exact ⟨_, _, h9, cv, w', S, σ', h1, t1.trans h2, h3⟩
        · exact absurd h (by simp)
      · exact absurd h (by simp)
  · exact absurd h (by simp)
end
end Go.Proofs.Ytbdekjlnnbjicaa.V
