/- LuD: texts of this claim, put together in build order by program. -/
import Derived.Test.YtapaenfafjmljaaBe
/- Lists: the law ListFinds. -/
namespace Go.Proofs.Ytapaenfafjmljaa.V
open Go
set_option maxRecDepth 100000
set_option linter.unusedVariables false
set_option linter.unusedSimpArgs false
variable {mx : Int}
theorem W7_ok : CallsOK (Γ mx) (W7 mx) := specs_ok (.cons (sp0_ok c9') (.cons (spD1_ok c8') (.cons spFi_ok (.cons spVyR_ok (.cons (spLL_ok k49) (.cons (spLL_ok c12') .nil))))))
theorem er_tree {r : AV × Objs} {a b c d e t w l fb rm : Bool} {X S : Nat → Option (AV × Objs)} (ht : t = true) (hr : rm = true)
    (pos : (a && (b && (c && (d && (e && (w && (l || !fb))))))) = true → EXR r X) (neg : (a && (b && (c && (d && (e && (w && (l || !fb))))))) = false → EXR r S) :
    EXR r fun k => bif a then (bif b then (bif c then (bif d then (bif e then (bif t then (bif w then (bif l then (bif rm then X k else none) else (bif !fb then (bif rm then X k else none) else S k)) else S k) else none) else S k) else S k) else S k) else S k) else S k := by
  subst ht hr
  cases a <;> cases b <;> cases c <;> cases d <;> cases e <;> cases w <;> cases l <;> cases fb <;> first | exact pos rfl | exact neg rfl
/-- a bucket of one version -/
def oneB (nm ok : Tx) (v : Ver) : D := D.agg [D.str nm, D.agg [D.int .i64 0, D.int .i64 0], D.slice .nl [], D.slice .nl [], D.slice .ex [D.agg [D.str ok, D.slice .any [vD v]]], D.slice .nl []]
theorem one_bkS {nm ok : Tx} {v : Ver} (h1 : short nm = true) (h2 : short ok = true) (h3 : vC (vD v) = true) : bkS (oneB nm ok v) = true := by
  have h4 : oC (D.agg [D.str ok, D.slice .any [vD v]]) = true := by
    show (short ok && vsC [vD v]) = true
    unfold vsC
    rw [h2, List.all_cons, h3]; rfl
  show ((short nm && (rsC [] && (allG [] && ([D.agg [D.str ok, D.slice .any [vD v]]].all oC && (decide (([D.agg [D.str ok, D.slice .any [vD v]]] : List D).length ≤ 8388608) && ([] : List D).all uC))))) && decide (totV [D.agg [D.str ok, D.slice .any [vD v]]] ≤ 4096)) = true
  rw [h1, List.all_cons, h4]; rfl
theorem one_vyL (nm ok p : Tx) (v : Ver) (sb sk : Tx) (si : Int) : vyL rowVR (oneB nm ok v) p (D.agg [D.str sb, D.str sk, D.int .u64 si]) 9 = bif hpB ok p && keepR sk si ok v.id then [rowVR (ok, v, true)] else [] := by
  have : vRows (oneB nm ok v) p (D.agg [D.str sb, D.str sk, D.int .u64 si]) = (bif hpB ok p then [((ok, v, true) : Vr Ver)].filter (fun r => keepR sk si r.1 r.2.1.id) else []) ++ [] := rfl
  unfold vyL
  rw [this, List.append_nil, List.filter_cons]
  cases hpB ok p with
  | false => rfl
  | true => cases keepR sk si ok v.id <;> rfl
theorem cutV_one {vl : List Ver} {m : Nat} (h : m < vl.length) : List.take (((m : Int) + 1).toNat - ((m : Int)).toNat) (List.drop ((m : Int)).toNat (vl.map vD)) = [vD vl[m]] := by
  rw [show ((m : Int) + 1).toNat - ((m : Int)).toNat = 1 by omega, Int.toNat_natCast, ← List.map_drop, List.drop_eq_getElem_cons h]
  rfl
section
variable {fp : Tx} {fc : Cp} {ft : List D} {ff fo fl fm : Int} {fb : Bool} {sb sk : Tx} {si : Int} {nm : Tx} {md dy : Int} {c1 c2 c3 c4 : Cp} {rs gs os us : List D} {n n4 : Int} {l2 : List D} {b3 : Bool}
theorem g7_13 {i : Int} {ok : Tx} {oc : Cp} {vl : List Ver} {r : AV × Objs} (hft : tC ft = true) (hi : 0 ≤ i) (hi2 : i ≤ 8388608) (hnm : short nm = true) (hk : short ok = true) (hvl : vl.length ≤ 8388608) (hva : (vl.map vD).all vC = true) (hg : os[i.toNat]? = some (D.agg [D.str ok, D.slice oc (vl.map vD)])) :
    ∀ (m : Nat) (j : Int) (A : List D) (q : Bool) (O : List D), m ≤ vl.length → j = (m : Int) - 1 → A.length + m ≤ 4096 →
    Goes (Γ mx) (W7 mx) 7 9 ⟨[(3, .i .i64 n), (5, .ptr 0 [] 62), (6, .ptr 1 [] 43), (9, .ptr 2 [] 32), (11, .sl 54 .any l2), (12, .b b3), (13, .i .i64 n4), (14, .ref 54 3), (15, .i .i64 (i + 1))], [some (.box 62 (.d 62 (D.agg [D.str fp, D.slice fc ft, D.int .i64 ff, D.int .i64 fo, D.int .i64 fl, D.int .i64 fm, D.bool fb]))), some (.box 43 (.d 43 (D.agg [D.str sb, D.str sk, D.int .u64 si]))), some (.box 32 (.d 32 (D.agg [D.str nm, D.agg [D.int .i64 md, D.int .i64 dy], D.slice c1 rs, D.slice c2 gs, D.slice c3 os, D.slice c4 us]))), some (.arr 54 (A ++ ((rowsAt ok vl m).filter (fun r : Vr Ver => hpB ok fp && (keepR sk si r.1 r.2.1.id && wnV ft ff fo fl fm fb r.2.1 r.2.2))).map rowVR) false)]⟩ r →
    Goes (Γ mx) (W7 mx) 7 13 ⟨[(3, .i .i64 n), (5, .ptr 0 [] 62), (6, .ptr 1 [] 43), (9, .ptr 2 [] 32), (11, .sl 54 .any l2), (12, .b b3), (13, .i .i64 n4), (14, .ref 54 3), (15, .i .i64 i), (16, .ptr 4 [] 32), (17, .i .i64 j)], [some (.box 62 (.d 62 (D.agg [D.str fp, D.slice fc ft, D.int .i64 ff, D.int .i64 fo, D.int .i64 fl, D.int .i64 fm, D.bool fb]))), some (.box 43 (.d 43 (D.agg [D.str sb, D.str sk, D.int .u64 si]))), some (.box 32 (.d 32 (D.agg [D.str nm, D.agg [D.int .i64 md, D.int .i64 dy], D.slice c1 rs, D.slice c2 gs, D.slice c3 os, D.slice c4 us]))), some (.arr 54 A false), some (.box 32 (.d 32 (D.agg [D.str nm, D.agg [D.int .i64 0, D.int .i64 0], D.slice .nl [], D.slice .nl [], D.slice (bif q then .ex else .any) O, D.slice .nl []])))]⟩ r
  | 0, j, A, q, O, hm, hj, hA, hc => by
    subst hj
    have w1 : IntKind.wrap .i64 (i + 1) = i + 1 := wrapI (by omega) (by omega)
    rw [show (rowsAt ok vl 0).filter (fun r : Vr Ver => hpB ok fp && (keepR sk si r.1 r.2.1.id && wnV ft ff fo fl fm fb r.2.1 r.2.2)) = [] from rfl, List.map_nil, List.append_nil] at hc
    cases q with
    | false =>
      refine Goes.er (er_of (fun k => w7_13a _ n l2 b3 n4 i _ fp fc ft ff fo fl fm fb sb sk si nm md dy c1 rs c2 gs c3 os c4 us A nm 0 0 O) ?_)
      rw [w1]
      exact er_f (decide_eq_false (by omega)) (er_lab hc)
    | true =>
      refine Goes.er (er_of (fun k => w7_13b _ n l2 b3 n4 i _ fp fc ft ff fo fl fm fb sb sk si nm md dy c1 rs c2 gs c3 os c4 us A nm 0 0 O) ?_)
      rw [w1]
      exact er_f (decide_eq_false (by omega)) (er_lab hc)
  | m + 1, j, A, q, O, hm, hj, hA, hc => by
    have hj' : j = (m : Int) := by omega
    subst hj'
    have hlt : m < vl.length := by omega
    have hvC : vC (vD vl[m]) = true := List.all_eq_true.1 hva _ (List.mem_map.2 ⟨vl[m], List.getElem_mem hlt, rfl⟩)
    have htt : (tC ft && tC vl[m].tg) = true := by rw [hft, (Bool.and_eq_true_iff.1 (show (tC vl[m].tg && (dgC vl[m].dg && decide (0 ≤ vl[m].id))) = true from hvC)).1]; rfl
    have w0 : IntKind.wrap .i64 ((m : Int) + 1) = (m : Int) + 1 := wrapI (by omega) (by omega)
    have w1 : IntKind.wrap .i64 ((m : Int) - 1) = (m : Int) - 1 := wrapI (by omega) (by omega)
    have w2 : IntKind.wrap .i64 (((vl.map vD).length : Int) - 1) = (vl.length : Int) - 1 := by rw [List.length_map]; exact wrapI (by omega) (by omega)
    have hfl : ((m : Int) == (vl.length : Int) - 1) = decide (m + 1 = vl.length) := by
      by_cases h : m + 1 = vl.length
      · rw [decide_eq_true h]; simp; omega
      · rw [decide_eq_false h]; simp; omega
    have hra : rowsAt ok vl (m + 1) = (ok, vl[m], decide (m + 1 = vl.length)) :: rowsAt ok vl m := by rw [rowsAt, List.getElem?_eq_getElem hlt]
    have hcut := cutV_one hlt
    have hone : (bkS (oneB nm ok vl[m]) && isSp (D.agg [D.str sb, D.str sk, D.int .u64 si])) = true := by rw [one_bkS hnm hk hvC]; rfl
    have hvy := one_vyL nm ok fp vl[m] sb sk si
    have nx := fun A' hA' => g7_13 (ok := ok) (oc := oc) hft hi hi2 hnm hk hvl hva hg m ((m : Int) - 1) A' true [D.agg [D.str ok, D.slice .any [vD vl[m]]]] (r := r) (by omega) rfl hA'
    have hroom : roomB (A.length + 1) 152 = true := room152 (by omega)
    have neg : (hpB ok fp && (keepR sk si ok vl[m].id && wnV ft ff fo fl fm fb vl[m] (decide (m + 1 = vl.length)))) = false → (rowsAt ok vl (m + 1)).filter (fun r : Vr Ver => hpB ok fp && (keepR sk si r.1 r.2.1.id && wnV ft ff fo fl fm fb r.2.1 r.2.2)) = (rowsAt ok vl m).filter (fun r : Vr Ver => hpB ok fp && (keepR sk si r.1 r.2.1.id && wnV ft ff fo fl fm fb r.2.1 r.2.2)) := fun h => by
      rw [hra, List.filter_cons_of_neg (p := fun r : Vr Ver => hpB ok fp && (keepR sk si r.1 r.2.1.id && wnV ft ff fo fl fm fb r.2.1 r.2.2)) (a := (ok, vl[m], decide (m + 1 = vl.length)))]
      show ¬ ((hpB ok fp && (keepR sk si ok vl[m].id && wnV ft ff fo fl fm fb vl[m] (decide (m + 1 = vl.length)))) = true)
      rw [h]; simp
    have pos : (hpB ok fp && (keepR sk si ok vl[m].id && wnV ft ff fo fl fm fb vl[m] (decide (m + 1 = vl.length)))) = true → (rowsAt ok vl (m + 1)).filter (fun r : Vr Ver => hpB ok fp && (keepR sk si r.1 r.2.1.id && wnV ft ff fo fl fm fb r.2.1 r.2.2)) = (ok, vl[m], decide (m + 1 = vl.length)) :: (rowsAt ok vl m).filter (fun r : Vr Ver => hpB ok fp && (keepR sk si r.1 r.2.1.id && wnV ft ff fo fl fm fb r.2.1 r.2.2)) := fun h => by
      rw [hra, List.filter_cons_of_pos (p := fun r : Vr Ver => hpB ok fp && (keepR sk si r.1 r.2.1.id && wnV ft ff fo fl fm fb r.2.1 r.2.2)) (a := (ok, vl[m], decide (m + 1 = vl.length))) h]
    have same : (hpB ok fp && (keepR sk si ok vl[m].id && wnV ft ff fo fl fm fb vl[m] (decide (m + 1 = vl.length)))) = false → Goes (Γ mx) (W7 mx) 7 13 ⟨[(3, .i .i64 n), (5, .ptr 0 [] 62), (6, .ptr 1 [] 43), (9, .ptr 2 [] 32), (11, .sl 54 .any l2), (12, .b b3), (13, .i .i64 n4), (14, .ref 54 3), (15, .i .i64 i), (16, .ptr 4 [] 32), (17, .i .i64 ((m : Int) - 1))], [some (.box 62 (.d 62 (D.agg [D.str fp, D.slice fc ft, D.int .i64 ff, D.int .i64 fo, D.int .i64 fl, D.int .i64 fm, D.bool fb]))), some (.box 43 (.d 43 (D.agg [D.str sb, D.str sk, D.int .u64 si]))), some (.box 32 (.d 32 (D.agg [D.str nm, D.agg [D.int .i64 md, D.int .i64 dy], D.slice c1 rs, D.slice c2 gs, D.slice c3 os, D.slice c4 us]))), some (.arr 54 A false), some (.box 32 (.d 32 (D.agg [D.str nm, D.agg [D.int .i64 0, D.int .i64 0], D.slice .nl [], D.slice .nl [], D.slice .ex [D.agg [D.str ok, D.slice .any [vD vl[m]]]], D.slice .nl []])))]⟩ r := fun h => by
      rw [neg h] at hc
      exact nx A (by omega) hc
    have more : (hpB ok fp && (keepR sk si ok vl[m].id && wnV ft ff fo fl fm fb vl[m] (decide (m + 1 = vl.length)))) = true → Goes (Γ mx) (W7 mx) 7 13 ⟨[(3, .i .i64 n), (5, .ptr 0 [] 62), (6, .ptr 1 [] 43), (9, .ptr 2 [] 32), (11, .sl 54 .any l2), (12, .b b3), (13, .i .i64 n4), (14, .ref 54 3), (15, .i .i64 i), (16, .ptr 4 [] 32), (17, .i .i64 ((m : Int) - 1))], [some (.box 62 (.d 62 (D.agg [D.str fp, D.slice fc ft, D.int .i64 ff, D.int .i64 fo, D.int .i64 fl, D.int .i64 fm, D.bool fb]))), some (.box 43 (.d 43 (D.agg [D.str sb, D.str sk, D.int .u64 si]))), some (.box 32 (.d 32 (D.agg [D.str nm, D.agg [D.int .i64 md, D.int .i64 dy], D.slice c1 rs, D.slice c2 gs, D.slice c3 os, D.slice c4 us]))), some (.arr 54 (A ++ [rowVR (ok, vl[m], decide (m + 1 = vl.length))]) false), some (.box 32 (.d 32 (D.agg [D.str nm, D.agg [D.int .i64 0, D.int .i64 0], D.slice .nl [], D.slice .nl [], D.slice .ex [D.agg [D.str ok, D.slice .any [vD vl[m]]]], D.slice .nl []])))]⟩ r := fun h => by
      rw [pos h, List.map_cons] at hc
      exact nx (A ++ [rowVR (ok, vl[m], decide (m + 1 = vl.length))]) (by simp; omega) (by rw [List.append_assoc]; exact hc)
    unfold oneB at hone hvy
    cases q with
    | false =>
      refine Goes.er (er_of (fun k => w7_13a _ n l2 b3 n4 i m fp fc ft ff fo fl fm fb sb sk si nm md dy c1 rs c2 gs c3 os c4 us A nm 0 0 O) ?_)
      rw [w0, w1]
      refine er_t (decide_eq_true (by omega)) (er_idx hi hg (er_agg (er_lc (er_s (er_lc (er_sl (er_ln ?_)))))))
      rw [hcut, hvy]
      refine er_t (by rw [decide_eq_true (by omega), decide_eq_true (by rw [List.length_map]; omega)]; rfl) (er_t (by rw [decide_eq_true (by omega), decide_eq_true (by omega)]; rfl) (er_t hone ?_))
      cases hkp : hpB ok fp && keepR sk si ok vl[m].id with
      | false =>
        exact er_t rfl (er_lab (same (by rw [← Bool.and_assoc, hkp]; rfl)))
      | true =>
        refine er_f rfl (er_idx (y := rowVR (ok, vl[m], true)) (by omega) rfl (er_agg (er_lc (er_s (er_lc (er_b (er_lc (er_agg (er_lc (er_u (er_lc (er_b (er_lc (er_i (er_lc (er_u (er_lc (er_agg (er_lc (er_i (er_lc (er_agg (er_lc (er_i (er_lc (er_i (er_lc (er_b (er_ln (er_lc (er_sl (er_ln (er_lc (er_b (er_ln ?_)))))))))))))))))))))))))))))))))))
        refine er_idx hi hg (er_agg (er_get rfl (er_sl ?_)))
        rw [w2, hfl]
        exact er_tree htt hroom (fun h => er_lab (more (by rw [← Bool.and_assoc, hkp]; exact h))) (fun h => er_lab (same (by rw [← Bool.and_assoc, hkp]; exact h)))
    | true =>
      refine Goes.er (er_of (fun k => w7_13b _ n l2 b3 n4 i m fp fc ft ff fo fl fm fb sb sk si nm md dy c1 rs c2 gs c3 os c4 us A nm 0 0 O) ?_)
      rw [w0, w1]
      refine er_t (decide_eq_true (by omega)) (er_idx hi hg (er_agg (er_lc (er_s (er_lc (er_sl (er_ln ?_)))))))
      rw [hcut, hvy]
      refine er_t (by rw [decide_eq_true (by omega), decide_eq_true (by rw [List.length_map]; omega)]; rfl) (er_t (by rw [decide_eq_true (by omega), decide_eq_true (by omega)]; rfl) (er_t hone ?_))
      cases hkp : hpB ok fp && keepR sk si ok vl[m].id with
      | false =>
        exact er_t rfl (er_lab (same (by rw [← Bool.and_assoc, hkp]; rfl)))
      | true =>
        refine er_f rfl (er_idx (y := rowVR (ok, vl[m], true)) (by omega) rfl (er_agg (er_lc (er_s (er_lc (er_b (er_lc (er_agg (er_lc (er_u (er_lc (er_b (er_lc (er_i (er_lc (er_u (er_lc (er_agg (er_lc (er_i (er_lc (er_agg (er_lc (er_i (er_lc (er_i (er_lc (er_b (er_ln (er_lc (er_sl (er_ln (er_lc (er_b (er_ln ?_)))))))))))))))))))))))))))))))))))
        refine er_idx hi hg (er_agg (er_get rfl (er_sl ?_)))
        rw [w2, hfl]
        exact er_tree htt hroom (fun h => er_lab (more (by rw [← Bool.and_assoc, hkp]; exact h))) (fun h => er_lab (same (by rw [← Bool.and_assoc, hkp]; exact h)))
theorem objF_eq {oc : Cp} (ok : Tx) (vl : List Ver) (o : D) (ho : o = D.agg [D.str ok, D.slice oc (vl.map vD)]) (hv : vsOf (vl.map vD) = vl) : objF fp sk si (wnV ft ff fo fl fm fb) o = (rowsAt ok vl vl.length).filter (fun r : Vr Ver => hpB ok fp && (keepR sk si r.1 r.2.1.id && wnV ft ff fo fl fm fb r.2.1 r.2.2)) := by
  subst ho
  unfold objF
  rw [show oKey (D.agg [D.str ok, D.slice oc (vl.map vD)]) = ok from rfl, show oVs (D.agg [D.str ok, D.slice oc (vl.map vD)]) = vl.map vD from rfl, hv, rowsAt_all]
  cases hpB ok fp with
  | false => simp
  | true => simp
theorem g7_9 (hft : tC ft = true) (hnm : short nm = true) (hos : os.all oC = true) (hol : os.length ≤ 8388608) {R : List (Vr Ver)} (hR : os.flatMap (objF fp sk si (wnV ft ff fo fl fm fb)) = R) (hl2 : l2 = (R.take n.toNat).map rowVP) (hb3 : b3 = decide (n < (R.length : Int))) (hn4 : n4 = 0) (hn : 1 ≤ n) (hn2 : n ≤ 100) (hv : ∀ r ∈ R, vC (vD r.2.1) = true) (hRl : R.length ≤ 4096) :
    ∀ (rest pre : List D) (A : List D) (i : Int), os = pre ++ rest → i = (pre.length : Int) → A.length + totV rest ≤ 4096 → A ++ (rest.flatMap (objF fp sk si (wnV ft ff fo fl fm fb))).map rowVR = R.map rowVR →
    Goes (Γ mx) (W7 mx) 7 9 ⟨[(3, .i .i64 n), (5, .ptr 0 [] 62), (6, .ptr 1 [] 43), (9, .ptr 2 [] 32), (11, .sl 54 .any l2), (12, .b b3), (13, .i .i64 n4), (14, .ref 54 3), (15, .i .i64 i)], [some (.box 62 (.d 62 (D.agg [D.str fp, D.slice fc ft, D.int .i64 ff, D.int .i64 fo, D.int .i64 fl, D.int .i64 fm, D.bool fb]))), some (.box 43 (.d 43 (D.agg [D.str sb, D.str sk, D.int .u64 si]))), some (.box 32 (.d 32 (D.agg [D.str nm, D.agg [D.int .i64 md, D.int .i64 dy], D.slice c1 rs, D.slice c2 gs, D.slice c3 os, D.slice c4 us]))), some (.arr 54 A false)]⟩ (.b true, [])
  | [], pre, A, i, he, hi, hA, hAR => by
    subst hi
    rw [List.flatMap_nil, List.map_nil, List.append_nil] at hAR
    subst hAR
    have hs : rowsS ((R.take n.toNat).map rowVP) ((R.take n.toNat).map rowVR) = true := page_same _ fun r hr => (rowS_ver (okV_of (hv r hr))).1
    have rwP : ∀ k, rwC ((R.take k).map rowVP) = true := fun k => by
      unfold rwC
      rw [decide_eq_true (by rw [List.length_map, List.length_take]; omega), Bool.true_and]
      refine List.all_eq_true.2 fun d hd => ?_
      obtain ⟨r, hr, rfl⟩ := List.mem_map.1 hd
      exact (rw1_VP (hv r (List.mem_of_mem_take hr))).1
    have rwR : ∀ k, rwC ((R.take k).map rowVR) = true := fun k => by
      unfold rwC
      rw [decide_eq_true (by rw [List.length_map, List.length_take]; omega), Bool.true_and]
      refine List.all_eq_true.2 fun d hd => ?_
      obtain ⟨r, hr, rfl⟩ := List.mem_map.1 hd
      exact (rw1_VP (hv r (List.mem_of_mem_take hr))).2
    have hcut : List.take (n.toNat - 0) (List.drop 0 (R.map rowVR)) = (R.take n.toNat).map rowVR := by rw [List.drop_zero, Nat.sub_zero, List.map_take]
    refine Goes.er (er_of (fun k => w7_9a _ n l2 b3 n4 _ fp fc ft ff fo fl fm fb sb sk si nm md dy c1 rs c2 gs c3 os c4 us (R.map rowVR)) (er_f (decide_eq_false ?_) ?_))
    · rw [he]; simp
    rw [hl2, hb3, hn4, hcut]
    refine er_if (fun h => ?_) (fun h => ?_)
    · have h : n < (R.length : Int) := by have := of_decide_eq_true h; rw [List.length_map] at this; omega
      refine er_t rfl (er_t (decide_eq_true h) (er_t (by rw [decide_eq_true (by omega), decide_eq_true (by rw [List.length_map]; omega)]; rfl) (er_t (by rw [rwP, rwR]; rfl) (er_is ?_))))
      rw [hs]
    · have h : ¬ n < (R.length : Int) := by have := of_decide_eq_false h; rw [List.length_map] at this; omega
      have ht : R.take n.toNat = R := List.take_of_length_le (by omega)
      have rr := rwR n.toNat
      rw [ht] at hs rr ⊢
      refine er_t rfl (er_t (by rw [decide_eq_false h]; rfl) (er_t ?_ (er_is ?_)))
      · have := rwP n.toNat
        rw [ht] at this
        rw [this, rr]; rfl
      · rw [hs]
  | y :: r, pre, A, i, he, hi, hA, hAR => by
    subst hi
    have hlen : os.length = pre.length + (r.length + 1) := by rw [he]; simp
    have hg : os[((pre.length : Nat) : Int).toNat]? = some y := by rw [he]; exact get_mid pre y r
    have w1 : IntKind.wrap .i64 ((pre.length : Int) + 1) = (pre.length : Int) + 1 := wrapI (by omega) (by omega)
    obtain ⟨yk, yc, vs, hye, hyk, hvs⟩ := oC_ex (List.all_eq_true.1 hos y (by rw [he]; simp))
    obtain ⟨hvl, hva⟩ := vsC_eq hvs
    obtain ⟨vl, rfl, hvo⟩ := vs_ex hva
    have hof := objF_eq (fp := fp) (ft := ft) (ff := ff) (fo := fo) (fl := fl) (fm := fm) (fb := fb) (sk := sk) (si := si) yk vl y hye hvo
    subst hye
    rw [List.length_map] at hvl
    have htot : totV (D.agg [D.str yk, D.slice yc (vl.map vD)] :: r) = vl.length + totV r := by
      show ((vl.map vD).length) + totV r = _
      rw [List.length_map]
    rw [htot] at hA
    have w2 : IntKind.wrap .i64 (((vl.map vD).length : Int) - 1) = (vl.length : Int) - 1 := by rw [List.length_map]; exact wrapI (by omega) (by omega)
    rw [List.flatMap_cons, hof, List.map_append, ← List.append_assoc] at hAR
    refine Goes.er (er_of (fun k => w7_9a _ n l2 b3 n4 _ fp fc ft ff fo fl fm fb sb sk si nm md dy c1 rs c2 gs c3 os c4 us A) ?_)
    rw [w1]
    refine er_t (decide_eq_true (by omega)) (er_t (by rw [decide_eq_true (by omega), decide_eq_true (by omega)]; rfl) (er_t (by rw [decide_eq_true (by omega), decide_eq_true (by omega)]; rfl) (er_idx (by omega) hg (er_agg (er_get rfl (er_sl ?_))))))
    rw [w2]
    refine er_lab (g7_13 (q := false) hft (by omega) (by omega) hnm hyk hvl hva hg vl.length _ A _ (Nat.le_refl _) rfl (by omega) ?_)
    refine g7_9 hft hnm hos hol hR hl2 hb3 hn4 hn hn2 hv hRl r (pre ++ [D.agg [D.str yk, D.slice yc (vl.map vD)]]) _ ((pre.length : Int) + 1) (by rw [he]; simp) (by simp) ?_ hAR
    rw [List.length_append, List.length_map]
    have := List.length_filter_le (fun r : Vr Ver => hpB yk fp && (keepR sk si r.1 r.2.1.id && wnV ft ff fo fl fm fb r.2.1 r.2.2)) (rowsAt yk vl vl.length)
    rw [rowsAt_all, rev_len] at this
    rw [rowsAt_all]
    omega
end
theorem law7 (s f q : D) (n : Int) (hs : stC s = true) (hf : fC f = true) (hq : isSp q = true) : RetX (Γ mx) 7 [.d 24 s, .d 62 f, .d 43 q, .i .i64 n] [] (.b true) [] := by
  have hs0 := hs
  have hf0 := hf
  obtain ⟨sm, sn, sb0, sc, sl, rfl, hl⟩ := stC_ex hs
  obtain ⟨fp, fc, ft, ff, fo, fl, fm, fb, rfl, hft⟩ := fC_ex hf
  obtain ⟨sb, sk, si, rfl⟩ := isSp_ex hq
  have : EXR (.b true, []) fun k => evF (Γ mx) (W7 mx) (L (Γ mx) (W7 mx) 7 k) 7 [.d 24 (D.agg [D.int .i64 sm, D.int .u64 sn, D.int .u64 sb0, D.slice sc sl]), .d 62 (D.agg [D.str fp, D.slice fc ft, D.int .i64 ff, D.int .i64 fo, D.int .i64 fl, D.int .i64 fm, D.bool fb]), .d 43 (D.agg [D.str sb, D.str sk, D.int .u64 si]), .i .i64 n] [] := by
    refine er_of (fun k => w7 _ sm sn sb0 sc sl fp fc ft ff fo fl fm fb sb sk si n) ?_
    refine er_t hs0 ?_
    cases hfi : firB mx (D.agg [D.int .i64 sm, D.int .u64 sn, D.int .u64 sb0, D.slice sc sl]) with
    | false =>
      have hD : firD mx (D.agg [D.int .i64 sm, D.int .u64 sn, D.int .u64 sb0, D.slice sc sl]) = D.agg [D.str [], D.agg [D.int .i64 0, D.int .i64 0], D.slice .nl [], D.slice .nl [], D.slice .nl [], D.slice .nl []] := by
        unfold firD; rw [hfi]; rfl
      rw [hD]
      exact er_agg (er_lc (er_s (er_lc (er_agg (er_lc (er_i (er_lc (er_i (er_ln (er_lc (er_sl (er_lc (er_sl (er_lc (er_sl (er_lc (er_sl (er_ln (er_t rfl er_some)))))))))))))))))))
    | true =>
      obtain ⟨y, r, hy1, hD, hbk, hok⟩ := fir_ok hs0 hfi
      have hS := fir_bkS hbk hok
      rw [hD]
      obtain ⟨nm, md, dy, c1, rs, c2, gs, c3, os, c4, us, rfl, hnm, _⟩ := bkC_ex hbk
      obtain ⟨hos, hol⟩ := bObj_all hbk
      have hos : os.all oC = true := hos
      have hol : os.length ≤ 8388608 := hol
      have htot : totV os ≤ 4096 := (bkS_eq hS).2
      refine er_agg (er_lc (er_s (er_lc (er_agg (er_lc (er_i (er_lc (er_i (er_ln (er_lc (er_sl (er_lc (er_sl (er_lc (er_sl (er_lc (er_sl (er_ln (er_f rfl ?_)))))))))))))))))))
      refine er_t (by rw [hS, hf0]; rfl) ?_
      have hR : os.flatMap (objF fp sk si (wnV ft ff fo fl fm fb)) = fRows (D.agg [D.str nm, D.agg [D.int .i64 md, D.int .i64 dy], D.slice c1 rs, D.slice c2 gs, D.slice c3 os, D.slice c4 us]) (D.agg [D.str fp, D.slice fc ft, D.int .i64 ff, D.int .i64 fo, D.int .i64 fl, D.int .i64 fm, D.bool fb]) (D.agg [D.str sb, D.str sk, D.int .u64 si]) := (fRows_eq (D.agg [D.str nm, D.agg [D.int .i64 md, D.int .i64 dy], D.slice c1 rs, D.slice c2 gs, D.slice c3 os, D.slice c4 us]) (D.agg [D.str fp, D.slice fc ft, D.int .i64 ff, D.int .i64 fo, D.int .i64 fl, D.int .i64 fm, D.bool fb]) sb sk si).symm
      have hv : ∀ r ∈ fRows (D.agg [D.str nm, D.agg [D.int .i64 md, D.int .i64 dy], D.slice c1 rs, D.slice c2 gs, D.slice c3 os, D.slice c4 us]) (D.agg [D.str fp, D.slice fc ft, D.int .i64 ff, D.int .i64 fo, D.int .i64 fl, D.int .i64 fm, D.bool fb]) (D.agg [D.str sb, D.str sk, D.int .u64 si]), vC (vD r.2.1) = true := fun r hr => (vRows_mem hbk (List.mem_filter.1 hr).1).1
      have hRl : (fRows (D.agg [D.str nm, D.agg [D.int .i64 md, D.int .i64 dy], D.slice c1 rs, D.slice c2 gs, D.slice c3 os, D.slice c4 us]) (D.agg [D.str fp, D.slice fc ft, D.int .i64 ff, D.int .i64 fo, D.int .i64 fl, D.int .i64 fm, D.bool fb]) (D.agg [D.str sb, D.str sk, D.int .u64 si])).length ≤ 4096 := Nat.le_trans (List.length_filter_le _ _) (Nat.le_trans (rowsV_len _ _ _ hos) htot)
      unfold fyA fyN
      by_cases h1 : n < 1
      · rw [pgE_lo h1]
        exact er_t (decide_eq_true h1) (er_t rfl (er_t rfl er_some))
      · by_cases h2 : n > 100
        · rw [pgE_hi h2]
          exact er_f (decide_eq_false h1) (er_t (decide_eq_true h2) (er_t rfl (er_t rfl er_some)))
        · rw [pgE_ok (show 1 ≤ n by omega) (show n ≤ 100 by omega)]
          refine er_f (decide_eq_false h1) (er_f (decide_eq_false h2) (er_lab ?_))
          exact g7_9 hft hnm hos hol hR rfl rfl rfl (by omega) (by omega) hv hRl os [] [] 0 rfl rfl (by rw [List.length_nil]; omega) (by rw [List.nil_append, hR])
  obtain ⟨k, hk⟩ := this
  exact ret_goes (Γ := Γ mx) hP hZ W7_ok (by kernel_rfl) ⟨k, hk⟩
end Go.Proofs.Ytapaenfafjmljaa.V
