/- LtI, LsJ, LsY, LtJ: texts of this claim, put together in build order by program. -/
import Derived.Test.YtapaenfafjmljaaBe
/- Lists: the law ListKeys. -/
namespace Go.Proofs.Ytapaenfafjmljaa.V
open Go
set_option maxRecDepth 100000
set_option linter.unusedVariables false
set_option linter.unusedSimpArgs false
variable {mx : Int}
theorem vC_00 : vC (vD v00) = true := by decide
theorem rowsF_all {Q : Ver → Prop} {p m af : Tx} {os : List (Tx × Ver)} (h0 : Q v00) (h : ∀ o ∈ os, Q o.2) : ∀ r ∈ rowsF (kitV p m) os af, Q r.2.2 := by
  intro r hr
  obtain ⟨o, ho, hc⟩ := List.mem_filterMap.1 (dl_mem hr)
  cases hg : r.2.1 with
  | false => rw [(cand_key hc hg).2]; exact h o ho
  | true =>
    unfold cand at hc
    split at hc
    · split at hc
      · split at hc
        · cases hc; exact h0
        · exact absurd hc (by simp)
      · cases hc; exact absurd hg (by simp)
    · exact absurd hc (by simp)
theorem kvO_vC {o : D} (h : oC o = true) : vC (vD (kvO o).2) = true := by
  obtain ⟨k, c, l, rfl, _, hl⟩ := oC_ex h
  obtain ⟨_, ha⟩ := vsC_eq hl
  obtain ⟨vl, rfl, hvo⟩ := vs_ex ha
  show vC (vD (lastV (vsOf (vl.map vD)))) = true
  rw [hvo]
  unfold lastV
  cases hq : vl.getLast? with
  | none => exact vC_00
  | some v => exact List.all_eq_true.1 ha _ (List.mem_map.2 ⟨v, List.mem_of_getLast? hq, rfl⟩)
theorem kRows_vC {b : D} (hb : bkC b = true) (p m a : Tx) : ∀ r ∈ kRows b p m a, vC (vD r.2.2) = true := by
  refine rowsF_all (Q := fun v => vC (vD v) = true) vC_00 fun o ho => ?_
  obtain ⟨y, hy, rfl⟩ := List.mem_map.1 ho
  exact kvO_vC (List.all_eq_true.1 (bObj_all hb).1 y hy)
theorem rw1_P {r : Rw Ver} (h : vC (vD r.2.2) = true) : rw1 (rowP r) = true ∧ rw1 (rowR r) = true := by
  unfold rowP rowR
  cases r.2.1 with
  | true => exact ⟨vC_00, vC_00⟩
  | false => exact ⟨h, h⟩
theorem pg_100 {n : Int} (h : (pgE n == 0) = true) : 1 ≤ n ∧ n ≤ 100 := by
  have := eq_of_beq h
  by_cases h1 : n < 1
  · rw [pgE_lo h1] at this; exact absurd this (by decide)
  · by_cases h2 : n > 100
    · rw [pgE_hi h2] at this; exact absurd this (by decide)
    · omega
theorem rwC_ky {f : Rw Ver → D} {R : List (Rw Ver)} {n : Int} (h : ∀ r ∈ R, rw1 (f r) = true) : rwC (kyA R f n) = true := by
  unfold kyA
  cases he : pgE n == 0 with
  | false => rfl
  | true =>
    rw [cond_true]
    have := pg_100 he
    unfold rwC
    rw [decide_eq_true (by rw [List.length_map, List.length_take]; omega), Bool.true_and]
    refine List.all_eq_true.2 fun d hd => ?_
    obtain ⟨r, hr, rfl⟩ := List.mem_map.1 hd
    exact h r (List.mem_of_mem_take hr)
theorem ky_same {R : List (Rw Ver)} {n : Int} (h : ∀ r ∈ R, vC (vD r.2.2) = true) : rowsS (kyA R rowP n) (kyA R rowR n) = true := by
  unfold kyA
  cases pgE n == 0 with
  | false => rfl
  | true => exact page_same _ fun r hr => (rowS_key (okV_of (h r hr))).1
theorem asc_kv {os : List D} (h : (os.map oP).Pairwise fun a b => lessB a.1 b.1 = true) : Asc (os.map kvO) := by
  unfold Asc
  rw [List.pairwise_map] at h ⊢
  exact h
theorem kRowsD_eq {b : D} (h : okOs none 0 (bObj b) = true) (p m a : Tx) : kRowsD b p m a = kRows b p m a := (rowsF_da (kitV p m) (asc_kv (ok_asc h).2.1) a).symm
theorem bkK_of {y : D} (h1 : bkC y = true) (h2 : okOs none 0 (bObj y) = true) : bkK y = true := by
  unfold bkK
  rw [fir_bkS h1 h2, Bool.true_and]
  refine List.all_eq_true.2 fun o ho => ?_
  have := (ok_asc h2).2.2 o ho
  unfold oSnd at this
  simp only [Bool.and_eq_true] at this
  exact this.2.1
theorem W3_ok : CallsOK (Γ mx) (W3 mx) := specs_ok (.cons (sp0_ok c9') (.cons (spD1_ok c8') (.cons spKzP_ok (.cons spKzR_ok (.cons (spLL_ok c12') .nil)))))
theorem law3 (s : D) (p m a : Tx) (n : Int) (hs : stC s = true) (hg : gC p m a = true) : RetX (Γ mx) 3 [.d 24 s, .s p, .s m, .s a, .i .i64 n] [] (.b true) [] := by
  have hs0 := hs
  obtain ⟨sm, sn, sb, sc, sl, rfl, hl⟩ := stC_ex hs
  have : EXR (.b true, []) fun k => evF (Γ mx) (W3 mx) (L (Γ mx) (W3 mx) 3 k) 3 [.d 24 (D.agg [D.int .i64 sm, D.int .u64 sn, D.int .u64 sb, D.slice sc sl]), .s p, .s m, .s a, .i .i64 n] [] := by
    refine er_of (fun k => w3 _ sm sn sb sc sl p m a n) ?_
    refine er_t hs0 ?_
    cases hf : firB mx (D.agg [D.int .i64 sm, D.int .u64 sn, D.int .u64 sb, D.slice sc sl]) with
    | false =>
      have hD : firD mx (D.agg [D.int .i64 sm, D.int .u64 sn, D.int .u64 sb, D.slice sc sl]) = D.agg [D.str [], D.agg [D.int .i64 0, D.int .i64 0], D.slice .nl [], D.slice .nl [], D.slice .nl [], D.slice .nl []] := by
        unfold firD; rw [hf]; rfl
      rw [hD]
      exact er_agg (er_lc (er_s (er_lc (er_agg (er_lc (er_i (er_lc (er_i (er_ln (er_lc (er_sl (er_lc (er_sl (er_lc (er_sl (er_lc (er_sl (er_ln (er_t rfl er_some)))))))))))))))))))
    | true =>
      obtain ⟨y, r, hy1, hD, hbk, hok⟩ := fir_ok hs0 hf
      have hK := bkK_of hbk hok
      rw [hD]
      obtain ⟨nm, md, dy, c1, rs, c2, gs, c3, os, c4, us, rfl, _⟩ := bkC_ex hbk
      refine er_agg (er_lc (er_s (er_lc (er_agg (er_lc (er_i (er_lc (er_i (er_ln (er_lc (er_sl (er_lc (er_sl (er_lc (er_sl (er_lc (er_sl (er_ln (er_f rfl ?_)))))))))))))))))))
      rw [kRowsD_eq hok]
      have hv := kRows_vC hbk p m a
      generalize kRows (D.agg [D.str nm, D.agg [D.int .i64 md, D.int .i64 dy], D.slice c1 rs, D.slice c2 gs, D.slice c3 os, D.slice c4 us]) p m a = R at hv ⊢
      have hc : (bkK (D.agg [D.str nm, D.agg [D.int .i64 md, D.int .i64 dy], D.slice c1 rs, D.slice c2 gs, D.slice c3 os, D.slice c4 us]) && gC p m a) = true := by rw [hK, hg]; rfl
      refine er_t hc (er_t hc (er_t (beq_self_eq_true _) (er_t (beq_self_eq_true _) (er_t ?_ ?_))))
      · rw [rwC_ky fun r h => (rw1_P (hv r h)).1, rwC_ky fun r h => (rw1_P (hv r h)).2]; rfl
      · rw [ky_same hv]; exact er_some
  obtain ⟨k, hk⟩ := this
  exact ret_goes (Γ := Γ mx) hP hZ W3_ok (by kernel_rfl) ⟨k, hk⟩
end Go.Proofs.Ytapaenfafjmljaa.V

/- Lists: what the machine over values makes of functions (6,): equations, written by program. -/
namespace Go.Proofs.Ytapaenfafjmljaa.V
open Go
set_option maxRecDepth 100000
set_option linter.unusedVariables false
set_option linter.unusedSimpArgs false
variable {mx : Int}
noncomputable def W6 (mx : Int) : Handle := runS [⟨9, dat (sp0 true (.b true))⟩, ⟨8, dat (spD1 24 stC fun s => .tuple [.d 32 (firD mx s), .b (firB mx s)])⟩, ⟨13, dat (spVy rowVP)⟩, ⟨12, dat spSm⟩]
theorem w6 (lab : Lab) (sm : Int) (sn : Int) (sb : Int) (sc : Cp) (sl : List D) (p : List UInt8) (m : Int) : evF (Γ mx) (W6 mx) lab 6 [.d 24 (D.agg [D.int .i64 sm, D.int .u64 sn, D.int .u64 sb, D.slice sc sl]), .s p, .i .u8 m] [] =
  bif stC (D.agg [D.int .i64 sm, D.int .u64 sn, D.int .u64 sb, D.slice sc sl]) then (dAgg ((firD mx (D.agg [D.int .i64 sm, D.int .u64 sn, D.int .u64 sb, D.slice sc sl]))) fun y1 => lCons y1 fun a2 r3 => dStr a2 fun s4 => lCons r3 fun a5 r6 => dAgg a5 fun y7 => lCons y7 fun a8 r9 => dInt .i64 a8 fun n10 => lCons r9 fun a11 r12 => dInt .i64 a11 fun n13 => lNil r12 (lCons r6 fun a14 r15 => dSlice a14 fun c16 l17 => lCons r15 fun a18 r19 => dSlice a18 fun c20 l21 => lCons r19 fun a22 r23 => dSlice a22 fun c24 l25 => lCons r23 fun a26 r27 => dSlice a26 fun c28 l29 => lNil r27 (bif !(firB mx (D.agg [D.int .i64 sm, D.int .u64 sn, D.int .u64 sb, D.slice sc sl])) then (some (.b true, [])) else (lab (todoAt (Γ mx) 6 6) ⟨[(1, .s p), (2, .i .u8 m), (7, .ptr 0 [] 32), (9, .i .i64 0), (10, .i .i64 0)], [some (.box 32 (.d 32 (D.agg [D.str s4, D.agg [D.int .i64 n10, D.int .i64 n13], D.slice c16 l17, D.slice c20 l21, D.slice c24 l25, D.slice c28 l29])))]⟩)))) else none := by kernel_rfl
theorem w6_6a (lab : Lab) (s1 : List UInt8) (n2 : Int) (n3 : Int) (n4 : Int) (s5 : List UInt8) (n6 : Int) (n7 : Int) (c8 : Cp) (l9 : List D) (c10 : Cp) (l11 : List D) (c12 : Cp) (l13 : List D) (c14 : Cp) (l15 : List D) : evL (Γ mx) (W6 mx) lab 6 6 ⟨[(1, .s s1), (2, .i .u8 n2), (7, .ptr 0 [] 32), (9, .i .i64 n3), (10, .i .i64 n4)], [some (.box 32 (.d 32 (D.agg [D.str s5, D.agg [D.int .i64 n6, D.int .i64 n7], D.slice c8 l9, D.slice c10 l11, D.slice c12 l13, D.slice c14 l15])))]⟩ =
  bif decide (n4 < ((l13.length : Int))) then (idx l13 n4 fun y16 => dAgg y16 fun y17 => lGet y17 1 fun y18 => dSlice y18 fun c19 l20 => lab (todoAt (Γ mx) 6 6) ⟨[(1, .s s1), (2, .i .u8 n2), (7, .ptr 0 [] 32), (9, .i .i64 (IntKind.wrap .i64 (n3 + ((l20.length : Int))))), (10, .i .i64 (IntKind.wrap .i64 (n4 + 1)))], [some (.box 32 (.d 32 (D.agg [D.str s5, D.agg [D.int .i64 n6, D.int .i64 n7], D.slice c8 l9, D.slice c10 l11, D.slice c12 l13, D.slice c14 l15])))]⟩) else (bif decide (n3 > 100) then (some (.b true, [])) else (bif bkS (D.agg [D.str s5, D.agg [D.int .i64 n6, D.int .i64 n7], D.slice c8 l9, D.slice c10 l11, D.slice c12 l13, D.slice c14 l15]) && isSp (D.agg [D.str ([] : List UInt8), D.str ([] : List UInt8), D.int .u64 0]) then (lab (todoAt (Γ mx) 6 16) ⟨[(1, .s s1), (7, .ptr 0 [] 32), (11, .sl 54 .any ((vyL rowVP (D.agg [D.str s5, D.agg [D.int .i64 n6, D.int .i64 n7], D.slice c8 l9, D.slice c10 l11, D.slice c12 l13, D.slice c14 l15]) s1 (D.agg [D.str ([] : List UInt8), D.str ([] : List UInt8), D.int .u64 0]) 100))), (13, .i .i64 (pgE 100)), (14, .snil), (15, .ptr 1 [] 43), (16, .i .i64 (IntKind.wrap .i64 (1 + (IntKind.wrap .i64 (Int.tmod n2 7))))), (17, .i .i64 0)], [some (.box 32 (.d 32 (D.agg [D.str s5, D.agg [D.int .i64 n6, D.int .i64 n7], D.slice c8 l9, D.slice c10 l11, D.slice c12 l13, D.slice c14 l15]))), some (.box 43 (.d 43 (D.agg [D.str ([] : List UInt8), D.str ([] : List UInt8), D.int .u64 0])))]⟩) else none)) := by kernel_rfl
theorem w6_16a (lab : Lab) (s1 : List UInt8) (l2 : List D) (n3 : Int) (n4 : Int) (n5 : Int) (s6 : List UInt8) (n7 : Int) (n8 : Int) (c9 : Cp) (l10 : List D) (c11 : Cp) (l12 : List D) (c13 : Cp) (l14 : List D) (c15 : Cp) (l16 : List D) (s17 : List UInt8) (s18 : List UInt8) (n19 : Int) : evL (Γ mx) (W6 mx) lab 6 16 ⟨[(1, .s s1), (7, .ptr 0 [] 32), (11, .sl 54 .any l2), (13, .i .i64 n3), (14, .snil), (15, .ptr 1 [] 43), (16, .i .i64 n4), (17, .i .i64 n5)], [some (.box 32 (.d 32 (D.agg [D.str s6, D.agg [D.int .i64 n7, D.int .i64 n8], D.slice c9 l10, D.slice c11 l12, D.slice c13 l14, D.slice c15 l16]))), some (.box 43 (.d 43 (D.agg [D.str s17, D.str s18, D.int .u64 n19])))]⟩ =
  bif decide (n5 < 120) then (bif bkS (D.agg [D.str s6, D.agg [D.int .i64 n7, D.int .i64 n8], D.slice c9 l10, D.slice c11 l12, D.slice c13 l14, D.slice c15 l16]) && isSp (D.agg [D.str s17, D.str s18, D.int .u64 n19]) then (bif (pgE n4) != 0 then (some (.b false, [])) else (bif decide (((((vyL rowVP (D.agg [D.str s6, D.agg [D.int .i64 n7, D.int .i64 n8], D.slice c9 l10, D.slice c11 l12, D.slice c13 l14, D.slice c15 l16]) s1 (D.agg [D.str s17, D.str s18, D.int .u64 n19]) n4)).length : Int)) > n4) then (some (.b false, [])) else (bif vyM (D.agg [D.str s6, D.agg [D.int .i64 n7, D.int .i64 n8], D.slice c9 l10, D.slice c11 l12, D.slice c13 l14, D.slice c15 l16]) s1 (D.agg [D.str s17, D.str s18, D.int .u64 n19]) n4 then (bif ((((vyL rowVP (D.agg [D.str s6, D.agg [D.int .i64 n7, D.int .i64 n8], D.slice c9 l10, D.slice c11 l12, D.slice c13 l14, D.slice c15 l16]) s1 (D.agg [D.str s17, D.str s18, D.int .u64 n19]) n4)).length : Int)) != n4 then (some (.b false, [])) else (onNil ((vyL rowVP (D.agg [D.str s6, D.agg [D.int .i64 n7, D.int .i64 n8], D.slice c9 l10, D.slice c11 l12, D.slice c13 l14, D.slice c15 l16]) s1 (D.agg [D.str s17, D.str s18, D.int .u64 n19]) n4)) (bif !(vyM (D.agg [D.str s6, D.agg [D.int .i64 n7, D.int .i64 n8], D.slice c9 l10, D.slice c11 l12, D.slice c13 l14, D.slice c15 l16]) s1 (D.agg [D.str s17, D.str s18, D.int .u64 n19]) n4) then (bif n3 == 0 then (bif rwC [] && rwC l2 then (some (.b (rowsS [] l2), [])) else none) else (some (.b false, []))) else (idx ((vyL rowVP (D.agg [D.str s6, D.agg [D.int .i64 n7, D.int .i64 n8], D.slice c9 l10, D.slice c11 l12, D.slice c13 l14, D.slice c15 l16]) s1 (D.agg [D.str s17, D.str s18, D.int .u64 n19]) n4)) (IntKind.wrap .i64 (((((vyL rowVP (D.agg [D.str s6, D.agg [D.int .i64 n7, D.int .i64 n8], D.slice c9 l10, D.slice c11 l12, D.slice c13 l14, D.slice c15 l16]) s1 (D.agg [D.str s17, D.str s18, D.int .u64 n19]) n4)).length : Int)) - 1)) fun y20 => dAgg y20 fun y21 => lCons y21 fun a22 r23 => dStr a22 fun s24 => lCons r23 fun a25 r26 => dBool a25 fun b27 => lCons r26 fun a28 r29 => dAgg a28 fun y30 => lCons y30 fun a31 r32 => dInt .u64 a31 fun n33 => lCons r32 fun a34 r35 => dBool a34 fun b36 => lCons r35 fun a37 r38 => dInt .i64 a37 fun n39 => lCons r38 fun a40 r41 => dInt .u64 a40 fun n42 => lCons r41 fun a43 r44 => dAgg a43 fun y45 => lCons r44 fun a46 r47 => dInt .i64 a46 fun n48 => lCons r47 fun a49 r50 => dAgg a49 fun y51 => lCons y51 fun a52 r53 => dInt .i64 a52 fun n54 => lCons r53 fun a55 r56 => dInt .i64 a55 fun n57 => lCons r56 fun a58 r59 => dBool a58 fun b60 => lNil r59 (lCons r50 fun a61 r62 => dSlice a61 fun c63 l64 => lNil r62 (lCons r29 fun a65 r66 => dBool a65 fun b67 => lNil r66 (lab (todoAt (Γ mx) 6 16) ⟨[(1, .s s1), (7, .ptr 0 [] 32), (11, .sl 54 .any l2), (13, .i .i64 n3), (14, .snil), (15, .ptr 1 [] 43), (16, .i .i64 n4), (17, .i .i64 (IntKind.wrap .i64 (n5 + 1)))], [some (.box 32 (.d 32 (D.agg [D.str s6, D.agg [D.int .i64 n7, D.int .i64 n8], D.slice c9 l10, D.slice c11 l12, D.slice c13 l14, D.slice c15 l16]))), some (.box 43 (.d 43 (D.agg [D.str ([] : List UInt8), D.str s24, D.int .u64 n33])))]⟩))))) (bif roomB (((vyL rowVP (D.agg [D.str s6, D.agg [D.int .i64 n7, D.int .i64 n8], D.slice c9 l10, D.slice c11 l12, D.slice c13 l14, D.slice c15 l16]) s1 (D.agg [D.str s17, D.str s18, D.int .u64 n19]) n4)).length) 152 then (bif !(vyM (D.agg [D.str s6, D.agg [D.int .i64 n7, D.int .i64 n8], D.slice c9 l10, D.slice c11 l12, D.slice c13 l14, D.slice c15 l16]) s1 (D.agg [D.str s17, D.str s18, D.int .u64 n19]) n4) then (bif n3 == 0 then (bif rwC (((vyL rowVP (D.agg [D.str s6, D.agg [D.int .i64 n7, D.int .i64 n8], D.slice c9 l10, D.slice c11 l12, D.slice c13 l14, D.slice c15 l16]) s1 (D.agg [D.str s17, D.str s18, D.int .u64 n19]) n4))) && rwC l2 then (some (.b (rowsS (((vyL rowVP (D.agg [D.str s6, D.agg [D.int .i64 n7, D.int .i64 n8], D.slice c9 l10, D.slice c11 l12, D.slice c13 l14, D.slice c15 l16]) s1 (D.agg [D.str s17, D.str s18, D.int .u64 n19]) n4))) l2), [])) else none) else (some (.b false, []))) else (idx ((vyL rowVP (D.agg [D.str s6, D.agg [D.int .i64 n7, D.int .i64 n8], D.slice c9 l10, D.slice c11 l12, D.slice c13 l14, D.slice c15 l16]) s1 (D.agg [D.str s17, D.str s18, D.int .u64 n19]) n4)) (IntKind.wrap .i64 (((((vyL rowVP (D.agg [D.str s6, D.agg [D.int .i64 n7, D.int .i64 n8], D.slice c9 l10, D.slice c11 l12, D.slice c13 l14, D.slice c15 l16]) s1 (D.agg [D.str s17, D.str s18, D.int .u64 n19]) n4)).length : Int)) - 1)) fun y68 => dAgg y68 fun y69 => lCons y69 fun a70 r71 => dStr a70 fun s72 => lCons r71 fun a73 r74 => dBool a73 fun b75 => lCons r74 fun a76 r77 => dAgg a76 fun y78 => lCons y78 fun a79 r80 => dInt .u64 a79 fun n81 => lCons r80 fun a82 r83 => dBool a82 fun b84 => lCons r83 fun a85 r86 => dInt .i64 a85 fun n87 => lCons r86 fun a88 r89 => dInt .u64 a88 fun n90 => lCons r89 fun a91 r92 => dAgg a91 fun y93 => lCons r92 fun a94 r95 => dInt .i64 a94 fun n96 => lCons r95 fun a97 r98 => dAgg a97 fun y99 => lCons y99 fun a100 r101 => dInt .i64 a100 fun n102 => lCons r101 fun a103 r104 => dInt .i64 a103 fun n105 => lCons r104 fun a106 r107 => dBool a106 fun b108 => lNil r107 (lCons r98 fun a109 r110 => dSlice a109 fun c111 l112 => lNil r110 (lCons r77 fun a113 r114 => dBool a113 fun b115 => lNil r114 (lab (todoAt (Γ mx) 6 16) ⟨[(1, .s s1), (7, .ptr 0 [] 32), (11, .sl 54 .any l2), (13, .i .i64 n3), (14, .ref 54 1), (15, .ptr 2 [] 43), (16, .i .i64 n4), (17, .i .i64 (IntKind.wrap .i64 (n5 + 1)))], [some (.box 32 (.d 32 (D.agg [D.str s6, D.agg [D.int .i64 n7, D.int .i64 n8], D.slice c9 l10, D.slice c11 l12, D.slice c13 l14, D.slice c15 l16]))), some (.arr 54 ((vyL rowVP (D.agg [D.str s6, D.agg [D.int .i64 n7, D.int .i64 n8], D.slice c9 l10, D.slice c11 l12, D.slice c13 l14, D.slice c15 l16]) s1 (D.agg [D.str s17, D.str s18, D.int .u64 n19]) n4)) false), some (.box 43 (.d 43 (D.agg [D.str ([] : List UInt8), D.str s72, D.int .u64 n81])))]⟩))))) else none))) else (onNil ((vyL rowVP (D.agg [D.str s6, D.agg [D.int .i64 n7, D.int .i64 n8], D.slice c9 l10, D.slice c11 l12, D.slice c13 l14, D.slice c15 l16]) s1 (D.agg [D.str s17, D.str s18, D.int .u64 n19]) n4)) (bif !(vyM (D.agg [D.str s6, D.agg [D.int .i64 n7, D.int .i64 n8], D.slice c9 l10, D.slice c11 l12, D.slice c13 l14, D.slice c15 l16]) s1 (D.agg [D.str s17, D.str s18, D.int .u64 n19]) n4) then (bif n3 == 0 then (bif rwC [] && rwC l2 then (some (.b (rowsS [] l2), [])) else none) else (some (.b false, []))) else (idx ((vyL rowVP (D.agg [D.str s6, D.agg [D.int .i64 n7, D.int .i64 n8], D.slice c9 l10, D.slice c11 l12, D.slice c13 l14, D.slice c15 l16]) s1 (D.agg [D.str s17, D.str s18, D.int .u64 n19]) n4)) (IntKind.wrap .i64 (((((vyL rowVP (D.agg [D.str s6, D.agg [D.int .i64 n7, D.int .i64 n8], D.slice c9 l10, D.slice c11 l12, D.slice c13 l14, D.slice c15 l16]) s1 (D.agg [D.str s17, D.str s18, D.int .u64 n19]) n4)).length : Int)) - 1)) fun y116 => dAgg y116 fun y117 => lCons y117 fun a118 r119 => dStr a118 fun s120 => lCons r119 fun a121 r122 => dBool a121 fun b123 => lCons r122 fun a124 r125 => dAgg a124 fun y126 => lCons y126 fun a127 r128 => dInt .u64 a127 fun n129 => lCons r128 fun a130 r131 => dBool a130 fun b132 => lCons r131 fun a133 r134 => dInt .i64 a133 fun n135 => lCons r134 fun a136 r137 => dInt .u64 a136 fun n138 => lCons r137 fun a139 r140 => dAgg a139 fun y141 => lCons r140 fun a142 r143 => dInt .i64 a142 fun n144 => lCons r143 fun a145 r146 => dAgg a145 fun y147 => lCons y147 fun a148 r149 => dInt .i64 a148 fun n150 => lCons r149 fun a151 r152 => dInt .i64 a151 fun n153 => lCons r152 fun a154 r155 => dBool a154 fun b156 => lNil r155 (lCons r146 fun a157 r158 => dSlice a157 fun c159 l160 => lNil r158 (lCons r125 fun a161 r162 => dBool a161 fun b163 => lNil r162 (lab (todoAt (Γ mx) 6 16) ⟨[(1, .s s1), (7, .ptr 0 [] 32), (11, .sl 54 .any l2), (13, .i .i64 n3), (14, .snil), (15, .ptr 1 [] 43), (16, .i .i64 n4), (17, .i .i64 (IntKind.wrap .i64 (n5 + 1)))], [some (.box 32 (.d 32 (D.agg [D.str s6, D.agg [D.int .i64 n7, D.int .i64 n8], D.slice c9 l10, D.slice c11 l12, D.slice c13 l14, D.slice c15 l16]))), some (.box 43 (.d 43 (D.agg [D.str ([] : List UInt8), D.str s120, D.int .u64 n129])))]⟩))))) (bif roomB (((vyL rowVP (D.agg [D.str s6, D.agg [D.int .i64 n7, D.int .i64 n8], D.slice c9 l10, D.slice c11 l12, D.slice c13 l14, D.slice c15 l16]) s1 (D.agg [D.str s17, D.str s18, D.int .u64 n19]) n4)).length) 152 then (bif !(vyM (D.agg [D.str s6, D.agg [D.int .i64 n7, D.int .i64 n8], D.slice c9 l10, D.slice c11 l12, D.slice c13 l14, D.slice c15 l16]) s1 (D.agg [D.str s17, D.str s18, D.int .u64 n19]) n4) then (bif n3 == 0 then (bif rwC (((vyL rowVP (D.agg [D.str s6, D.agg [D.int .i64 n7, D.int .i64 n8], D.slice c9 l10, D.slice c11 l12, D.slice c13 l14, D.slice c15 l16]) s1 (D.agg [D.str s17, D.str s18, D.int .u64 n19]) n4))) && rwC l2 then (some (.b (rowsS (((vyL rowVP (D.agg [D.str s6, D.agg [D.int .i64 n7, D.int .i64 n8], D.slice c9 l10, D.slice c11 l12, D.slice c13 l14, D.slice c15 l16]) s1 (D.agg [D.str s17, D.str s18, D.int .u64 n19]) n4))) l2), [])) else none) else (some (.b false, []))) else (idx ((vyL rowVP (D.agg [D.str s6, D.agg [D.int .i64 n7, D.int .i64 n8], D.slice c9 l10, D.slice c11 l12, D.slice c13 l14, D.slice c15 l16]) s1 (D.agg [D.str s17, D.str s18, D.int .u64 n19]) n4)) (IntKind.wrap .i64 (((((vyL rowVP (D.agg [D.str s6, D.agg [D.int .i64 n7, D.int .i64 n8], D.slice c9 l10, D.slice c11 l12, D.slice c13 l14, D.slice c15 l16]) s1 (D.agg [D.str s17, D.str s18, D.int .u64 n19]) n4)).length : Int)) - 1)) fun y164 => dAgg y164 fun y165 => lCons y165 fun a166 r167 => dStr a166 fun s168 => lCons r167 fun a169 r170 => dBool a169 fun b171 => lCons r170 fun a172 r173 => dAgg a172 fun y174 => lCons y174 fun a175 r176 => dInt .u64 a175 fun n177 => lCons r176 fun a178 r179 => dBool a178 fun b180 => lCons r179 fun a181 r182 => dInt .i64 a181 fun n183 => lCons r182 fun a184 r185 => dInt .u64 a184 fun n186 => lCons r185 fun a187 r188 => dAgg a187 fun y189 => lCons r188 fun a190 r191 => dInt .i64 a190 fun n192 => lCons r191 fun a193 r194 => dAgg a193 fun y195 => lCons y195 fun a196 r197 => dInt .i64 a196 fun n198 => lCons r197 fun a199 r200 => dInt .i64 a199 fun n201 => lCons r200 fun a202 r203 => dBool a202 fun b204 => lNil r203 (lCons r194 fun a205 r206 => dSlice a205 fun c207 l208 => lNil r206 (lCons r173 fun a209 r210 => dBool a209 fun b211 => lNil r210 (lab (todoAt (Γ mx) 6 16) ⟨[(1, .s s1), (7, .ptr 0 [] 32), (11, .sl 54 .any l2), (13, .i .i64 n3), (14, .ref 54 1), (15, .ptr 2 [] 43), (16, .i .i64 n4), (17, .i .i64 (IntKind.wrap .i64 (n5 + 1)))], [some (.box 32 (.d 32 (D.agg [D.str s6, D.agg [D.int .i64 n7, D.int .i64 n8], D.slice c9 l10, D.slice c11 l12, D.slice c13 l14, D.slice c15 l16]))), some (.arr 54 ((vyL rowVP (D.agg [D.str s6, D.agg [D.int .i64 n7, D.int .i64 n8], D.slice c9 l10, D.slice c11 l12, D.slice c13 l14, D.slice c15 l16]) s1 (D.agg [D.str s17, D.str s18, D.int .u64 n19]) n4)) false), some (.box 43 (.d 43 (D.agg [D.str ([] : List UInt8), D.str s168, D.int .u64 n177])))]⟩))))) else none))))) else none) else (bif n3 == 0 then (bif rwC [] && rwC l2 then (some (.b (rowsS [] l2), [])) else none) else (some (.b false, []))) := by kernel_rfl
theorem w6_16b (lab : Lab) (s1 : List UInt8) (l2 : List D) (n3 : Int) (n4 : Int) (n5 : Int) (s6 : List UInt8) (n7 : Int) (n8 : Int) (c9 : Cp) (l10 : List D) (c11 : Cp) (l12 : List D) (c13 : Cp) (l14 : List D) (c15 : Cp) (l16 : List D) (l17 : List D) (s18 : List UInt8) (s19 : List UInt8) (n20 : Int) : evL (Γ mx) (W6 mx) lab 6 16 ⟨[(1, .s s1), (7, .ptr 0 [] 32), (11, .sl 54 .any l2), (13, .i .i64 n3), (14, .ref 54 1), (15, .ptr 2 [] 43), (16, .i .i64 n4), (17, .i .i64 n5)], [some (.box 32 (.d 32 (D.agg [D.str s6, D.agg [D.int .i64 n7, D.int .i64 n8], D.slice c9 l10, D.slice c11 l12, D.slice c13 l14, D.slice c15 l16]))), some (.arr 54 l17 false), some (.box 43 (.d 43 (D.agg [D.str s18, D.str s19, D.int .u64 n20])))]⟩ =
  bif decide (n5 < 120) then (bif bkS (D.agg [D.str s6, D.agg [D.int .i64 n7, D.int .i64 n8], D.slice c9 l10, D.slice c11 l12, D.slice c13 l14, D.slice c15 l16]) && isSp (D.agg [D.str s18, D.str s19, D.int .u64 n20]) then (bif (pgE n4) != 0 then (some (.b false, [])) else (bif decide (((((vyL rowVP (D.agg [D.str s6, D.agg [D.int .i64 n7, D.int .i64 n8], D.slice c9 l10, D.slice c11 l12, D.slice c13 l14, D.slice c15 l16]) s1 (D.agg [D.str s18, D.str s19, D.int .u64 n20]) n4)).length : Int)) > n4) then (some (.b false, [])) else (bif vyM (D.agg [D.str s6, D.agg [D.int .i64 n7, D.int .i64 n8], D.slice c9 l10, D.slice c11 l12, D.slice c13 l14, D.slice c15 l16]) s1 (D.agg [D.str s18, D.str s19, D.int .u64 n20]) n4 then (bif ((((vyL rowVP (D.agg [D.str s6, D.agg [D.int .i64 n7, D.int .i64 n8], D.slice c9 l10, D.slice c11 l12, D.slice c13 l14, D.slice c15 l16]) s1 (D.agg [D.str s18, D.str s19, D.int .u64 n20]) n4)).length : Int)) != n4 then (some (.b false, [])) else (bif roomB (l17.length + ((vyL rowVP (D.agg [D.str s6, D.agg [D.int .i64 n7, D.int .i64 n8], D.slice c9 l10, D.slice c11 l12, D.slice c13 l14, D.slice c15 l16]) s1 (D.agg [D.str s18, D.str s19, D.int .u64 n20]) n4)).length) 152 then (bif !(vyM (D.agg [D.str s6, D.agg [D.int .i64 n7, D.int .i64 n8], D.slice c9 l10, D.slice c11 l12, D.slice c13 l14, D.slice c15 l16]) s1 (D.agg [D.str s18, D.str s19, D.int .u64 n20]) n4) then (bif n3 == 0 then (bif rwC ((l17 ++ ((vyL rowVP (D.agg [D.str s6, D.agg [D.int .i64 n7, D.int .i64 n8], D.slice c9 l10, D.slice c11 l12, D.slice c13 l14, D.slice c15 l16]) s1 (D.agg [D.str s18, D.str s19, D.int .u64 n20]) n4)))) && rwC l2 then (some (.b (rowsS ((l17 ++ ((vyL rowVP (D.agg [D.str s6, D.agg [D.int .i64 n7, D.int .i64 n8], D.slice c9 l10, D.slice c11 l12, D.slice c13 l14, D.slice c15 l16]) s1 (D.agg [D.str s18, D.str s19, D.int .u64 n20]) n4)))) l2), [])) else none) else (some (.b false, []))) else (idx ((vyL rowVP (D.agg [D.str s6, D.agg [D.int .i64 n7, D.int .i64 n8], D.slice c9 l10, D.slice c11 l12, D.slice c13 l14, D.slice c15 l16]) s1 (D.agg [D.str s18, D.str s19, D.int .u64 n20]) n4)) (IntKind.wrap .i64 (((((vyL rowVP (D.agg [D.str s6, D.agg [D.int .i64 n7, D.int .i64 n8], D.slice c9 l10, D.slice c11 l12, D.slice c13 l14, D.slice c15 l16]) s1 (D.agg [D.str s18, D.str s19, D.int .u64 n20]) n4)).length : Int)) - 1)) fun y21 => dAgg y21 fun y22 => lCons y22 fun a23 r24 => dStr a23 fun s25 => lCons r24 fun a26 r27 => dBool a26 fun b28 => lCons r27 fun a29 r30 => dAgg a29 fun y31 => lCons y31 fun a32 r33 => dInt .u64 a32 fun n34 => lCons r33 fun a35 r36 => dBool a35 fun b37 => lCons r36 fun a38 r39 => dInt .i64 a38 fun n40 => lCons r39 fun a41 r42 => dInt .u64 a41 fun n43 => lCons r42 fun a44 r45 => dAgg a44 fun y46 => lCons r45 fun a47 r48 => dInt .i64 a47 fun n49 => lCons r48 fun a50 r51 => dAgg a50 fun y52 => lCons y52 fun a53 r54 => dInt .i64 a53 fun n55 => lCons r54 fun a56 r57 => dInt .i64 a56 fun n58 => lCons r57 fun a59 r60 => dBool a59 fun b61 => lNil r60 (lCons r51 fun a62 r63 => dSlice a62 fun c64 l65 => lNil r63 (lCons r30 fun a66 r67 => dBool a66 fun b68 => lNil r67 (lab (todoAt (Γ mx) 6 16) ⟨[(1, .s s1), (7, .ptr 0 [] 32), (11, .sl 54 .any l2), (13, .i .i64 n3), (14, .ref 54 1), (15, .ptr 2 [] 43), (16, .i .i64 n4), (17, .i .i64 (IntKind.wrap .i64 (n5 + 1)))], [some (.box 32 (.d 32 (D.agg [D.str s6, D.agg [D.int .i64 n7, D.int .i64 n8], D.slice c9 l10, D.slice c11 l12, D.slice c13 l14, D.slice c15 l16]))), some (.arr 54 (l17 ++ ((vyL rowVP (D.agg [D.str s6, D.agg [D.int .i64 n7, D.int .i64 n8], D.slice c9 l10, D.slice c11 l12, D.slice c13 l14, D.slice c15 l16]) s1 (D.agg [D.str s18, D.str s19, D.int .u64 n20]) n4))) false), some (.box 43 (.d 43 (D.agg [D.str ([] : List UInt8), D.str s25, D.int .u64 n34])))]⟩))))) else none)) else (bif roomB (l17.length + ((vyL rowVP (D.agg [D.str s6, D.agg [D.int .i64 n7, D.int .i64 n8], D.slice c9 l10, D.slice c11 l12, D.slice c13 l14, D.slice c15 l16]) s1 (D.agg [D.str s18, D.str s19, D.int .u64 n20]) n4)).length) 152 then (bif !(vyM (D.agg [D.str s6, D.agg [D.int .i64 n7, D.int .i64 n8], D.slice c9 l10, D.slice c11 l12, D.slice c13 l14, D.slice c15 l16]) s1 (D.agg [D.str s18, D.str s19, D.int .u64 n20]) n4) then (bif n3 == 0 then (bif rwC ((l17 ++ ((vyL rowVP (D.agg [D.str s6, D.agg [D.int .i64 n7, D.int .i64 n8], D.slice c9 l10, D.slice c11 l12, D.slice c13 l14, D.slice c15 l16]) s1 (D.agg [D.str s18, D.str s19, D.int .u64 n20]) n4)))) && rwC l2 then (some (.b (rowsS ((l17 ++ ((vyL rowVP (D.agg [D.str s6, D.agg [D.int .i64 n7, D.int .i64 n8], D.slice c9 l10, D.slice c11 l12, D.slice c13 l14, D.slice c15 l16]) s1 (D.agg [D.str s18, D.str s19, D.int .u64 n20]) n4)))) l2), [])) else none) else (some (.b false, []))) else (idx ((vyL rowVP (D.agg [D.str s6, D.agg [D.int .i64 n7, D.int .i64 n8], D.slice c9 l10, D.slice c11 l12, D.slice c13 l14, D.slice c15 l16]) s1 (D.agg [D.str s18, D.str s19, D.int .u64 n20]) n4)) (IntKind.wrap .i64 (((((vyL rowVP (D.agg [D.str s6, D.agg [D.int .i64 n7, D.int .i64 n8], D.slice c9 l10, D.slice c11 l12, D.slice c13 l14, D.slice c15 l16]) s1 (D.agg [D.str s18, D.str s19, D.int .u64 n20]) n4)).length : Int)) - 1)) fun y69 => dAgg y69 fun y70 => lCons y70 fun a71 r72 => dStr a71 fun s73 => lCons r72 fun a74 r75 => dBool a74 fun b76 => lCons r75 fun a77 r78 => dAgg a77 fun y79 => lCons y79 fun a80 r81 => dInt .u64 a80 fun n82 => lCons r81 fun a83 r84 => dBool a83 fun b85 => lCons r84 fun a86 r87 => dInt .i64 a86 fun n88 => lCons r87 fun a89 r90 => dInt .u64 a89 fun n91 => lCons r90 fun a92 r93 => dAgg a92 fun y94 => lCons r93 fun a95 r96 => dInt .i64 a95 fun n97 => lCons r96 fun a98 r99 => dAgg a98 fun y100 => lCons y100 fun a101 r102 => dInt .i64 a101 fun n103 => lCons r102 fun a104 r105 => dInt .i64 a104 fun n106 => lCons r105 fun a107 r108 => dBool a107 fun b109 => lNil r108 (lCons r99 fun a110 r111 => dSlice a110 fun c112 l113 => lNil r111 (lCons r78 fun a114 r115 => dBool a114 fun b116 => lNil r115 (lab (todoAt (Γ mx) 6 16) ⟨[(1, .s s1), (7, .ptr 0 [] 32), (11, .sl 54 .any l2), (13, .i .i64 n3), (14, .ref 54 1), (15, .ptr 2 [] 43), (16, .i .i64 n4), (17, .i .i64 (IntKind.wrap .i64 (n5 + 1)))], [some (.box 32 (.d 32 (D.agg [D.str s6, D.agg [D.int .i64 n7, D.int .i64 n8], D.slice c9 l10, D.slice c11 l12, D.slice c13 l14, D.slice c15 l16]))), some (.arr 54 (l17 ++ ((vyL rowVP (D.agg [D.str s6, D.agg [D.int .i64 n7, D.int .i64 n8], D.slice c9 l10, D.slice c11 l12, D.slice c13 l14, D.slice c15 l16]) s1 (D.agg [D.str s18, D.str s19, D.int .u64 n20]) n4))) false), some (.box 43 (.d 43 (D.agg [D.str ([] : List UInt8), D.str s73, D.int .u64 n82])))]⟩))))) else none)))) else none) else (bif n3 == 0 then (bif rwC l17 && rwC l2 then (some (.b (rowsS l17 l2), [])) else none) else (some (.b false, []))) := by kernel_rfl
end Go.Proofs.Ytapaenfafjmljaa.V

/- Lists: the law ListWalks. -/
namespace Go.Proofs.Ytapaenfafjmljaa.V
open Go
set_option maxRecDepth 100000
set_option linter.unusedVariables false
set_option linter.unusedSimpArgs false
variable {mx : Int}
theorem W6_ok : CallsOK (Γ mx) (W6 mx) := specs_ok (.cons (sp0_ok c9') (.cons (spD1_ok c8') (.cons spVyP_ok (.cons spSm_ok .nil))))
theorem er_onnil {r : AV × Objs} {α : Type} {l : List α} {X Y : Nat → Option (AV × Objs)} (h1 : l = [] → EXR r X) (h2 : l ≠ [] → EXR r Y) : EXR r fun n => onNil l (X n) (Y n) := by
  cases l with
  | nil => exact h1 rfl
  | cons a b => exact h2 (by simp)
theorem page_l {b : D} {p : Tx} {s : D} {k : Int} {R : List (Vr Ver)} {j : Nat} (h1 : 1 ≤ k) (h2 : k ≤ 100) (h : vRows b p s = R.drop j) : vyL rowVP b p s k = ((R.drop j).take k.toNat).map rowVP := by
  unfold vyL
  rw [pgE_ok h1 h2, h]; rfl
theorem page_m {b : D} {p : Tx} {s : D} {k : Int} {R : List (Vr Ver)} {j : Nat} (h1 : 1 ≤ k) (h2 : k ≤ 100) (hj : j ≤ R.length) (h : vRows b p s = R.drop j) : vyM b p s k = decide (j + k.toNat < R.length) := by
  unfold vyM
  rw [pgE_ok h1 h2, h, List.length_drop]
  show decide _ = decide _
  exact decide_eq_decide.2 (by omega)
theorem page_cat {R : List (Vr Ver)} {j k : Nat} : (R.take j).map rowVP ++ ((R.drop j).take k).map rowVP = (R.take (j + k)).map rowVP := by
  rw [← List.map_append, ← List.take_add]
theorem rwC_of {R : List (Vr Ver)} (hl : R.length ≤ 100) (h : ∀ r ∈ R, vC (vD r.2.1) = true) : rwC (R.map rowVP) = true := by
  unfold rwC
  rw [decide_eq_true (by rw [List.length_map]; omega), Bool.true_and]
  refine List.all_eq_true.2 fun d hd => ?_
  obtain ⟨r, hr, rfl⟩ := List.mem_map.1 hd
  exact (rw1_VP (h r hr)).1
theorem same_of {R : List (Vr Ver)} (h : ∀ r ∈ R, vC (vD r.2.1) = true) : rowsS (R.map rowVP) (R.map rowVP) = true :=
  rowsS_map fun x hx => (rowS_ver (okV_of (h x hx))).2
theorem last_row {R : List (Vr Ver)} {j : Nat} {k : Int} (h1 : 1 ≤ k) (h : j + k.toNat < R.length) : ∃ x, R[j + k.toNat - 1]? = some x ∧ (((R.drop j).take k.toNat).map rowVP)[(k - 1).toNat]? = some (rowVP x) := by
  refine ⟨R[j + k.toNat - 1], List.getElem?_eq_getElem (by omega), ?_⟩
  rw [List.getElem?_map, List.getElem?_take_of_lt (by omega), List.getElem?_drop, show j + (k - 1).toNat = j + k.toNat - 1 by omega, List.getElem?_eq_getElem (by omega)]
  rfl
theorem rowVP_eq (x : Vr Ver) : rowVP x = D.agg [D.str x.1, D.bool false, D.agg [D.int .u64 x.2.1.id, D.bool x.2.1.mr, D.int .i64 x.2.1.sz, D.int .u64 x.2.1.bl, D.agg x.2.1.dg, D.int .i64 x.2.1.cr, D.agg [D.int .i64 x.2.1.md, D.int .i64 x.2.1.un, D.bool x.2.1.ho], D.slice .cl x.2.1.tg], D.bool x.2.2] := rfl
section
variable {nm : Tx} {md dy : Int} {c1 c2 c3 c4 : Cp} {rs gs os us : List D} {p : Tx} {k : Int} {R : List (Vr Ver)}
theorem s6b (hk1 : 1 ≤ k) (hk2 : k ≤ 7) (hS : bkS (D.agg [D.str nm, D.agg [D.int .i64 md, D.int .i64 dy], D.slice c1 rs, D.slice c2 gs, D.slice c3 os, D.slice c4 us]) = true) (hok : okOs none 0 os = true) (hR : vRows (D.agg [D.str nm, D.agg [D.int .i64 md, D.int .i64 dy], D.slice c1 rs, D.slice c2 gs, D.slice c3 os, D.slice c4 us]) p (D.agg [D.str ([] : List UInt8), D.str ([] : List UInt8), D.int .u64 0]) = R) (hl : R.length ≤ 100) (hv : ∀ r ∈ R, vC (vD r.2.1) = true)
    {j : Nat} {i : Int} {s1 s2 : Tx} {id : Int} (hj : j ≤ R.length) (hi : 0 ≤ i) (hij : i ≤ (j : Int)) (hs : vRows (D.agg [D.str nm, D.agg [D.int .i64 md, D.int .i64 dy], D.slice c1 rs, D.slice c2 gs, D.slice c3 os, D.slice c4 us]) p (D.agg [D.str s1, D.str s2, D.int .u64 id]) = R.drop j)
    (nx : ∀ (s3 : Tx) (id3 : Int), j + k.toNat < R.length → vRows (D.agg [D.str nm, D.agg [D.int .i64 md, D.int .i64 dy], D.slice c1 rs, D.slice c2 gs, D.slice c3 os, D.slice c4 us]) p (D.agg [D.str [], D.str s3, D.int .u64 id3]) = R.drop (j + k.toNat) →
      Goes (Γ mx) (W6 mx) 6 16 ⟨[(1, .s p), (7, .ptr 0 [] 32), (11, .sl 54 .any (R.map rowVP)), (13, .i .i64 0), (14, .ref 54 1), (15, .ptr 2 [] 43), (16, .i .i64 k), (17, .i .i64 (i + 1))], [some (.box 32 (.d 32 (D.agg [D.str nm, D.agg [D.int .i64 md, D.int .i64 dy], D.slice c1 rs, D.slice c2 gs, D.slice c3 os, D.slice c4 us]))), some (.arr 54 ((R.take (j + k.toNat)).map rowVP) false), some (.box 43 (.d 43 (D.agg [D.str [], D.str s3, D.int .u64 id3])))]⟩ (.b true, [])) :
    Goes (Γ mx) (W6 mx) 6 16 ⟨[(1, .s p), (7, .ptr 0 [] 32), (11, .sl 54 .any (R.map rowVP)), (13, .i .i64 0), (14, .ref 54 1), (15, .ptr 2 [] 43), (16, .i .i64 k), (17, .i .i64 i)], [some (.box 32 (.d 32 (D.agg [D.str nm, D.agg [D.int .i64 md, D.int .i64 dy], D.slice c1 rs, D.slice c2 gs, D.slice c3 os, D.slice c4 us]))), some (.arr 54 ((R.take j).map rowVP) false), some (.box 43 (.d 43 (D.agg [D.str s1, D.str s2, D.int .u64 id])))]⟩ (.b true, []) := by
  have e1 := page_l hk1 (by omega) hs
  have e2 := page_m hk1 (by omega) hj hs
  have e3 := pgE_ok hk1 (show k ≤ 100 by omega)
  have w1 : IntKind.wrap .i64 (i + 1) = i + 1 := wrapI (by omega) (by omega)
  have hlen : (((R.drop j).take k.toNat).map rowVP).length = min k.toNat (R.length - j) := by simp
  have hroom : roomB (((R.take j).map rowVP).length + (((R.drop j).take k.toNat).map rowVP).length) 152 = true := room152 (by rw [hlen, List.length_map, List.length_take]; omega)
  refine Goes.er (er_of (fun n => w6_16b _ p (R.map rowVP) 0 k i nm md dy c1 rs c2 gs c3 os c4 us ((R.take j).map rowVP) s1 s2 id) ?_)
  rw [e1, e2, e3, w1, page_cat]
  refine er_t (decide_eq_true (by omega)) (er_t (by rw [hS]; rfl) (er_f rfl (er_f (decide_eq_false (by rw [hlen]; omega)) ?_)))
  by_cases hm : j + k.toNat < R.length
  · rw [decide_eq_true hm]
    obtain ⟨x, hx1, hx2⟩ := last_row hk1 hm
    rw [rowVP_eq] at hx2
    have hlk : ((((R.drop j).take k.toNat).map rowVP).length : Int) = k := by rw [hlen]; omega
    have w2 : IntKind.wrap .i64 (k - 1) = k - 1 := wrapI (by omega) (by omega)
    rw [hlk, w2]
    refine er_t rfl (er_f (by simp) (er_t hroom (er_f rfl (er_idx (by omega) hx2 ?_))))
    refine er_agg (er_lc (er_s (er_lc (er_b (er_lc (er_agg (er_lc (er_u (er_lc (er_b (er_lc (er_i (er_lc (er_u (er_lc (er_agg (er_lc (er_i (er_lc (er_agg (er_lc (er_i (er_lc (er_i (er_lc (er_b (er_ln (er_lc (er_sl (er_ln (er_lc (er_b (er_ln (er_lab ?_))))))))))))))))))))))))))))))))))
    refine nx x.1 x.2.1.id hm ?_
    have hq := vRows_next (sb := []) (sa := []) (p := p) (b := D.agg [D.str nm, D.agg [D.int .i64 md, D.int .i64 dy], D.slice c1 rs, D.slice c2 gs, D.slice c3 os, D.slice c4 us]) hok (by rw [hR]; exact hx1)
    rw [hR, show j + k.toNat - 1 + 1 = j + k.toNat by omega] at hq
    exact hq
  · rw [decide_eq_false hm]
    rw [List.take_of_length_le (show R.length ≤ j + k.toNat by omega)]
    refine er_f rfl (er_t hroom (er_t rfl (er_t rfl (er_t (by rw [rwC_of hl hv]; rfl) (er_is ?_)))))
    rw [same_of hv]
theorem g6b (hk1 : 1 ≤ k) (hk2 : k ≤ 7) (hS : bkS (D.agg [D.str nm, D.agg [D.int .i64 md, D.int .i64 dy], D.slice c1 rs, D.slice c2 gs, D.slice c3 os, D.slice c4 us]) = true) (hok : okOs none 0 os = true) (hR : vRows (D.agg [D.str nm, D.agg [D.int .i64 md, D.int .i64 dy], D.slice c1 rs, D.slice c2 gs, D.slice c3 os, D.slice c4 us]) p (D.agg [D.str ([] : List UInt8), D.str ([] : List UInt8), D.int .u64 0]) = R) (hl : R.length ≤ 100) (hv : ∀ r ∈ R, vC (vD r.2.1) = true) : ∀ (m j : Nat) (i : Int) (s1 s2 : Tx) (id : Int), R.length - j ≤ m → j ≤ R.length → 0 ≤ i → i ≤ (j : Int) → vRows (D.agg [D.str nm, D.agg [D.int .i64 md, D.int .i64 dy], D.slice c1 rs, D.slice c2 gs, D.slice c3 os, D.slice c4 us]) p (D.agg [D.str s1, D.str s2, D.int .u64 id]) = R.drop j →
    Goes (Γ mx) (W6 mx) 6 16 ⟨[(1, .s p), (7, .ptr 0 [] 32), (11, .sl 54 .any (R.map rowVP)), (13, .i .i64 0), (14, .ref 54 1), (15, .ptr 2 [] 43), (16, .i .i64 k), (17, .i .i64 i)], [some (.box 32 (.d 32 (D.agg [D.str nm, D.agg [D.int .i64 md, D.int .i64 dy], D.slice c1 rs, D.slice c2 gs, D.slice c3 os, D.slice c4 us]))), some (.arr 54 ((R.take j).map rowVP) false), some (.box 43 (.d 43 (D.agg [D.str s1, D.str s2, D.int .u64 id])))]⟩ (.b true, [])
  | 0, j, i, s1, s2, id, hm, hj, hi, hij, hs => s6b hk1 hk2 hS hok hR hl hv hj hi hij hs fun s3 id3 h _ => by omega
  | m + 1, j, i, s1, s2, id, hm, hj, hi, hij, hs => s6b hk1 hk2 hS hok hR hl hv hj hi hij hs fun s3 id3 h h3 => g6b hk1 hk2 hS hok hR hl hv m (j + k.toNat) (i + 1) [] s3 id3 (by omega) (by omega) (by omega) (by omega) h3
theorem g6a (hk1 : 1 ≤ k) (hk2 : k ≤ 7) (hS : bkS (D.agg [D.str nm, D.agg [D.int .i64 md, D.int .i64 dy], D.slice c1 rs, D.slice c2 gs, D.slice c3 os, D.slice c4 us]) = true) (hok : okOs none 0 os = true) (hR : vRows (D.agg [D.str nm, D.agg [D.int .i64 md, D.int .i64 dy], D.slice c1 rs, D.slice c2 gs, D.slice c3 os, D.slice c4 us]) p (D.agg [D.str ([] : List UInt8), D.str ([] : List UInt8), D.int .u64 0]) = R) (hl : R.length ≤ 100) (hv : ∀ r ∈ R, vC (vD r.2.1) = true) :
    Goes (Γ mx) (W6 mx) 6 16 ⟨[(1, .s p), (7, .ptr 0 [] 32), (11, .sl 54 .any (R.map rowVP)), (13, .i .i64 0), (14, .snil), (15, .ptr 1 [] 43), (16, .i .i64 k), (17, .i .i64 0)], [some (.box 32 (.d 32 (D.agg [D.str nm, D.agg [D.int .i64 md, D.int .i64 dy], D.slice c1 rs, D.slice c2 gs, D.slice c3 os, D.slice c4 us]))), some (.box 43 (.d 43 (D.agg [D.str ([] : List UInt8), D.str ([] : List UInt8), D.int .u64 0])))]⟩ (.b true, []) := by
  have hs : vRows (D.agg [D.str nm, D.agg [D.int .i64 md, D.int .i64 dy], D.slice c1 rs, D.slice c2 gs, D.slice c3 os, D.slice c4 us]) p (D.agg [D.str ([] : List UInt8), D.str ([] : List UInt8), D.int .u64 0]) = R.drop 0 := hR
  have e1 := page_l hk1 (by omega) hs
  have e2 := page_m hk1 (by omega) (Nat.zero_le _) hs
  have e3 := pgE_ok hk1 (show k ≤ 100 by omega)
  have w1 : IntKind.wrap .i64 ((0 : Int) + 1) = 0 + 1 := wrapI (by omega) (by omega)
  have hlen : (((R.drop 0).take k.toNat).map rowVP).length = min k.toNat R.length := by simp
  have hroom : roomB (((R.drop 0).take k.toNat).map rowVP).length 152 = true := room152 (by rw [hlen]; omega)
  refine Goes.er (er_of (fun n => w6_16a _ p (R.map rowVP) 0 k 0 nm md dy c1 rs c2 gs c3 os c4 us [] [] 0) ?_)
  rw [e1, e2, e3, w1, Nat.zero_add]
  refine er_t (decide_eq_true (by omega)) (er_t (by rw [hS]; rfl) (er_f rfl (er_f (decide_eq_false (by rw [hlen]; omega)) ?_)))
  by_cases hm : k.toNat < R.length
  · rw [decide_eq_true hm]
    obtain ⟨x, hx1, hx2⟩ := last_row (R := R) (j := 0) hk1 (by omega)
    rw [rowVP_eq] at hx2
    have hlk : ((((R.drop 0).take k.toNat).map rowVP).length : Int) = k := by rw [hlen]; omega
    have w2 : IntKind.wrap .i64 (k - 1) = k - 1 := wrapI (by omega) (by omega)
    rw [hlk, w2]
    refine er_t rfl (er_f (by simp) (er_onnil (fun h => ?_) fun _ => er_t hroom (er_f rfl (er_idx (by omega) hx2 ?_))))
    · exfalso; rw [h] at hlk; simp at hlk; omega
    refine er_agg (er_lc (er_s (er_lc (er_b (er_lc (er_agg (er_lc (er_u (er_lc (er_b (er_lc (er_i (er_lc (er_u (er_lc (er_agg (er_lc (er_i (er_lc (er_agg (er_lc (er_i (er_lc (er_i (er_lc (er_b (er_ln (er_lc (er_sl (er_ln (er_lc (er_b (er_ln (er_lab ?_))))))))))))))))))))))))))))))))))
    have hq := vRows_next (sb := []) (sa := []) (p := p) (b := D.agg [D.str nm, D.agg [D.int .i64 md, D.int .i64 dy], D.slice c1 rs, D.slice c2 gs, D.slice c3 os, D.slice c4 us]) hok (by rw [hR]; exact hx1)
    rw [hR, show 0 + k.toNat - 1 + 1 = k.toNat by omega] at hq
    exact g6b hk1 hk2 hS hok hR hl hv (R.length - k.toNat) k.toNat (0 + 1) [] x.1 x.2.1.id (by omega) (by omega) (by omega) (by omega) hq
  · rw [decide_eq_false hm]
    have ht : (R.drop 0).take k.toNat = R := by rw [List.drop_zero]; exact List.take_of_length_le (by omega)
    rw [ht] at hroom ⊢
    refine er_f rfl (er_onnil (fun h => ?_) fun _ => er_t hroom (er_t rfl (er_t rfl (er_t (by rw [rwC_of hl hv]; rfl) (er_is ?_)))))
    · rw [h]
      exact er_t rfl (er_t rfl (er_t rfl (er_is rfl)))
    rw [same_of hv]
theorem g6_6 {m : Int} (hm1 : 0 ≤ m) (hm2 : m ≤ 255) (hb : bkC (D.agg [D.str nm, D.agg [D.int .i64 md, D.int .i64 dy], D.slice c1 rs, D.slice c2 gs, D.slice c3 os, D.slice c4 us]) = true) (hS : bkS (D.agg [D.str nm, D.agg [D.int .i64 md, D.int .i64 dy], D.slice c1 rs, D.slice c2 gs, D.slice c3 os, D.slice c4 us]) = true) (hok : okOs none 0 os = true) : ∀ (rest pre : List D) (n i : Int), os = pre ++ rest → i = (pre.length : Int) → n + (totV rest : Int) = (totV os : Int) → 0 ≤ n →
    Goes (Γ mx) (W6 mx) 6 6 ⟨[(1, .s p), (2, .i .u8 m), (7, .ptr 0 [] 32), (9, .i .i64 n), (10, .i .i64 i)], [some (.box 32 (.d 32 (D.agg [D.str nm, D.agg [D.int .i64 md, D.int .i64 dy], D.slice c1 rs, D.slice c2 gs, D.slice c3 os, D.slice c4 us])))]⟩ (.b true, [])
  | [], pre, n, i, he, hi, hn, hn0 => by
    subst hi
    obtain ⟨hb1, hb2⟩ := bObj_all hb
    have ht : n = (totV os : Int) := by simpa [totV] using hn
    refine Goes.er (er_of (fun q => w6_6a _ p m n _ nm md dy c1 rs c2 gs c3 os c4 us) (er_f (decide_eq_false (by rw [he]; simp)) ?_))
    refine er_if (fun h => er_some) (fun h => ?_)
    have h : ¬ n > 100 := of_decide_eq_false h
    have hq : IntKind.wrap .i64 (1 + (IntKind.wrap .i64 (Int.tmod m 7))) = 1 + m % 7 := by
      rw [Int.tmod_eq_emod_of_nonneg hm1, show IntKind.wrap .i64 (m % 7) = m % 7 from wrapI (by omega) (by omega), wrapI (by omega) (by omega)]
    have hl : (vRows (D.agg [D.str nm, D.agg [D.int .i64 md, D.int .i64 dy], D.slice c1 rs, D.slice c2 gs, D.slice c3 os, D.slice c4 us]) p (D.agg [D.str ([] : List UInt8), D.str ([] : List UInt8), D.int .u64 0])).length ≤ 100 := by
      have : (vRows (D.agg [D.str nm, D.agg [D.int .i64 md, D.int .i64 dy], D.slice c1 rs, D.slice c2 gs, D.slice c3 os, D.slice c4 us]) p (D.agg [D.str ([] : List UInt8), D.str ([] : List UInt8), D.int .u64 0])).length ≤ totV os := rowsV_len _ _ _ hb1
      omega
    have hw : vyL rowVP (D.agg [D.str nm, D.agg [D.int .i64 md, D.int .i64 dy], D.slice c1 rs, D.slice c2 gs, D.slice c3 os, D.slice c4 us]) p (D.agg [D.str ([] : List UInt8), D.str ([] : List UInt8), D.int .u64 0]) 100 = (vRows (D.agg [D.str nm, D.agg [D.int .i64 md, D.int .i64 dy], D.slice c1 rs, D.slice c2 gs, D.slice c3 os, D.slice c4 us]) p (D.agg [D.str ([] : List UInt8), D.str ([] : List UInt8), D.int .u64 0])).map rowVP := by
      unfold vyL
      rw [pgE_ok (by omega) (by omega), show (100 : Int).toNat = 100 from rfl, List.take_of_length_le hl]; rfl
    rw [hq, hw, show pgE 100 = 0 from rfl]
    refine er_t (by rw [hS]; rfl) (er_lab ?_)
    exact g6a (by omega) (by omega) hS hok rfl hl fun r hr => (vRows_mem hb hr).1
  | y :: r, pre, n, i, he, hi, hn, hn0 => by
    subst hi
    obtain ⟨hb1, hb2⟩ := bObj_all hb
    have hb1 : os.all oC = true := hb1
    have hb2 : os.length ≤ 8388608 := hb2
    have ht : totV os ≤ 4096 := (bkS_eq hS).2
    have hlen : os.length = pre.length + (r.length + 1) := by rw [he]; simp
    have hg : os[((pre.length : Nat) : Int).toNat]? = some y := by rw [he]; exact get_mid pre y r
    obtain ⟨yk, yc, vs, rfl, _, hvs⟩ := oC_ex (List.all_eq_true.1 hb1 y (by rw [he]; simp))
    have htot : totV (D.agg [D.str yk, D.slice yc vs] :: r) = vs.length + totV r := rfl
    rw [htot] at hn
    have w1 : IntKind.wrap .i64 ((pre.length : Int) + 1) = (pre.length : Int) + 1 := wrapI (by omega) (by omega)
    have w2 : IntKind.wrap .i64 (n + (vs.length : Int)) = n + (vs.length : Int) := wrapI (by omega) (by omega)
    refine Goes.er (er_of (fun q => w6_6a _ p m n _ nm md dy c1 rs c2 gs c3 os c4 us) ?_)
    rw [w1]
    refine er_t (decide_eq_true (by omega)) (er_idx (by omega) hg (er_agg (er_get rfl (er_sl ?_))))
    rw [w2]
    exact er_lab (g6_6 hm1 hm2 hb hS hok r (pre ++ [D.agg [D.str yk, D.slice yc vs]]) (n + (vs.length : Int)) ((pre.length : Int) + 1) (by rw [he]; simp) (by simp) (by omega) (by omega))
end
theorem law6 (s : D) (p : Tx) (m : Int) (hs : stC s = true) (hm1 : 0 ≤ m) (hm2 : m ≤ 255) : RetX (Γ mx) 6 [.d 24 s, .s p, .i .u8 m] [] (.b true) [] := by
  have hs0 := hs
  obtain ⟨sm, sn, sb, sc, sl, rfl, hl⟩ := stC_ex hs
  have : EXR (.b true, []) fun k => evF (Γ mx) (W6 mx) (L (Γ mx) (W6 mx) 6 k) 6 [.d 24 (D.agg [D.int .i64 sm, D.int .u64 sn, D.int .u64 sb, D.slice sc sl]), .s p, .i .u8 m] [] := by
    refine er_of (fun k => w6 _ sm sn sb sc sl p m) ?_
    refine er_t hs0 ?_
    cases hf : firB mx (D.agg [D.int .i64 sm, D.int .u64 sn, D.int .u64 sb, D.slice sc sl]) with
    | false =>
      have hD : firD mx (D.agg [D.int .i64 sm, D.int .u64 sn, D.int .u64 sb, D.slice sc sl]) = D.agg [D.str [], D.agg [D.int .i64 0, D.int .i64 0], D.slice .nl [], D.slice .nl [], D.slice .nl [], D.slice .nl []] := by
        unfold firD; rw [hf]; rfl
      rw [hD]
      exact er_agg (er_lc (er_s (er_lc (er_agg (er_lc (er_i (er_lc (er_i (er_ln (er_lc (er_sl (er_lc (er_sl (er_lc (er_sl (er_lc (er_sl (er_ln (er_t rfl er_some)))))))))))))))))))
    | true =>
      obtain ⟨y, r, hy1, hD, hbk, hok⟩ := fir_ok hs0 hf
      have hS := fir_bkS hbk hok
      rw [hD]
      obtain ⟨nm, md, dy, c1, rs, c2, gs, c3, os, c4, us, rfl, _⟩ := bkC_ex hbk
      refine er_agg (er_lc (er_s (er_lc (er_agg (er_lc (er_i (er_lc (er_i (er_ln (er_lc (er_sl (er_lc (er_sl (er_lc (er_sl (er_lc (er_sl (er_ln (er_f rfl (er_lab ?_))))))))))))))))))))
      exact g6_6 hm1 hm2 hbk hS hok os [] 0 0 rfl rfl (by simp) (by omega)
  obtain ⟨k, hk⟩ := this
  exact ret_goes (Γ := Γ mx) hP hZ W6_ok (by kernel_rfl) ⟨k, hk⟩
end Go.Proofs.Ytapaenfafjmljaa.V

/- Lists: the law ListPages. -/
namespace Go.Proofs.Ytapaenfafjmljaa.V
open Go
set_option maxRecDepth 100000
set_option linter.unusedVariables false
set_option linter.unusedSimpArgs false
variable {mx : Int}
/-! ### is there a key of a group that is far? -/
theorem g15_2 {nm g : Tx} {md dy : Int} {c1 c2 c3 c4 : Cp} {rs gs os us : List D} (hos : os.all oC = true) (hol : os.length ≤ 8388608) (hg0 : g.length ≤ 4194304) : ∀ (rest pre : List D) (i : Int), os = pre ++ rest → i = (pre.length : Int) →
    Goes (Γ mx) (runS []) 15 2 ⟨[(1, .s g), (2, .ptr 0 [] 32), (5, .i .i64 i)], [some (.box 32 (.d 32 (D.agg [D.str nm, D.agg [D.int .i64 md, D.int .i64 dy], D.slice c1 rs, D.slice c2 gs, D.slice c3 os, D.slice c4 us])))]⟩ (.b (rest.any fun o => hpB (oKey o) g && !lessB (oKey o) (g ++ far8)), [])
  | [], pre, i, he, hi => by
    subst hi
    exact Goes.er (er_of (fun k => w15_2a _ g _ nm md dy c1 rs c2 gs c3 os c4 us) (er_f (decide_eq_false (by rw [he]; simp)) (er_is rfl)))
  | y :: r, pre, i, he, hi => by
    subst hi
    have hlen : os.length = pre.length + (r.length + 1) := by rw [he]; simp
    have hg : os[((pre.length : Nat) : Int).toNat]? = some y := by rw [he]; exact get_mid pre y r
    have w1 : IntKind.wrap .i64 ((pre.length : Int) + 1) = (pre.length : Int) + 1 := wrapI (by omega) (by omega)
    have nx := er_lab (g15_2 (nm := nm) (md := md) (dy := dy) (c1 := c1) (c2 := c2) (c3 := c3) (c4 := c4) (rs := rs) (gs := gs) (us := us) hos hol hg0 r (pre ++ [y]) ((pre.length : Int) + 1) (by rw [he]; simp) (by simp))
    obtain ⟨yk, yc, vs, rfl, hyk, hvs⟩ := oC_ex (List.all_eq_true.1 hos y (by rw [he]; simp))
    rw [List.any_cons, show oKey (D.agg [D.str yk, D.slice yc vs]) = yk from rfl]
    refine Goes.er (er_of (fun k => w15_2a _ g _ nm md dy c1 rs c2 gs c3 os c4 us) ?_)
    rw [w1]
    refine er_t (decide_eq_true (by omega)) (er_idx (by omega) hg (er_agg (er_get rfl (er_s ?_))))
    by_cases h1 : g.length ≤ yk.length
    · refine er_t (decide_eq_true (by omega)) (er_t (by rw [decide_eq_true (by omega), decide_eq_true (by omega)]; rfl) ?_)
      have e1 : List.take (Int.toNat (g.length : Int) - 0) (List.drop 0 yk) = yk.take g.length := by rw [Int.toNat_natCast, Nat.sub_zero, List.drop_zero]
      rw [e1]
      have e2 : hpB yk g = (yk.take g.length == g) := by unfold hpB; rw [decide_eq_true h1, Bool.true_and]
      rw [e2]
      refine er_if (fun h2 => ?_) (fun h2 => ?_)
      · refine er_t (decide_eq_true (by simp [maxStr]; omega)) ?_
        rw [h2, Bool.true_and]
        refine er_if (fun h3 => ?_) (fun h3 => ?_)
        · have h3 : (!lessB yk (g ++ far8)) = true := h3
          rw [h3]; exact er_is rfl
        · have h3 : (!lessB yk (g ++ far8)) = false := h3
          rw [h3, Bool.false_or]; exact nx
      · rw [h2, Bool.false_and, Bool.false_or]; exact nx
    · refine er_f (decide_eq_false (by omega)) ?_
      have e2 : hpB yk g = false := by unfold hpB; rw [decide_eq_false h1, Bool.false_and]
      rw [e2, Bool.false_and, Bool.false_or]; exact nx
theorem c15' (b : D) (g : Tx) (hb : bkK b = true) (hg : short g = true) : RetX (Γ mx) 15 [.d 32 b, .s g] [] (.b (farB b g)) [] := by
  obtain ⟨hb, hne⟩ := bkK_eq hb
  obtain ⟨hb, ht⟩ := bkS_eq hb
  obtain ⟨nm, md, dy, c1, rs, c2, gs, c3, os, c4, us, rfl, k1, k2, k3, k4, k5, k6⟩ := bkC_ex hb
  obtain ⟨q, hq⟩ := g15_2 (mx := mx) (nm := nm) (md := md) (dy := dy) (c1 := c1) (c2 := c2) (c3 := c3) (c4 := c4) (rs := rs) (gs := gs) (us := us) k4 k5 (of_decide_eq_true hg) os [] 0 rfl rfl
  exact ret_goes (Γ := Γ mx) hP hZ none_ok (by kernel_rfl) ⟨q, (w15 _ nm md dy c1 rs c2 gs c3 os c4 us g).trans hq⟩
theorem spFar_ok : SpecOK (Γ mx) ⟨15, dat spFar⟩ := dat_ok fun args r hr => by
  unfold spFar at hr
  split at hr
  · simp only [Option.some.injEq, Prod.mk.injEq, Bool.and_eq_true] at hr
    obtain ⟨⟨h1, h2⟩, rfl⟩ := hr
    exact c15' _ _ h1 h2
  · exact absurd hr (by simp)
theorem W5_ok : CallsOK (Γ mx) (W5 mx) := specs_ok (.cons (sp0_ok c9') (.cons (spD1_ok c8') (.cons spKzP_ok (.cons spFar_ok (.cons spSm_ok .nil)))))
/-! ### rows -/
theorem sameK {R : List (Rw Ver)} (h : ∀ r ∈ R, vC (vD r.2.2) = true) : rowsS (R.map rowP) (R.map rowP) = true :=
  rowsS_map fun x hx => (rowS_key (okV_of (h x hx))).2
theorem rwC_k {R : List (Rw Ver)} (hl : R.length ≤ 8388608) (h : ∀ r ∈ R, vC (vD r.2.2) = true) : rwC (R.map rowP) = true := by
  unfold rwC
  rw [decide_eq_true (by rw [List.length_map]; omega), Bool.true_and]
  refine List.all_eq_true.2 fun d hd => ?_
  obtain ⟨r, hr, rfl⟩ := List.mem_map.1 hd
  exact (rw1_P (h r hr)).1
theorem kRows_key {b : D} (hok : okOs none 0 (bObj b) = true) (p m a : Tx) : ∀ r ∈ kRows b p m a, r.1.length ≤ 200 := by
  intro r hr
  obtain ⟨o, ho, hc⟩ := List.mem_filterMap.1 (dl_mem hr)
  obtain ⟨y, hy, rfl⟩ := List.mem_map.1 ho
  have hs := (ok_asc hok).2.2 y hy
  have hk : (kvO y).1.length ≤ 200 := by
    unfold oSnd keyB at hs
    simp only [Bool.and_eq_true, decide_eq_true_eq] at hs
    exact hs.1.2.1
  cases hg : r.2.1 with
  | false => rw [(cand_key hc hg).2]; exact hk
  | true =>
    obtain ⟨h1, _⟩ := cand_group hc hg
    obtain ⟨t, ht⟩ := (grp_g1 (show grpO (kvO y).1 p m = some r.1 from h1)).1
    rw [ht, List.length_append] at hk
    omega
theorem kRows_next {b : D} (hok : okOs none 0 (bObj b) = true) {p m : Tx} {j : Nat} {x : Rw Ver} (h : (kRows b p m [])[j]? = some x) (hf : x.2.1 = true → farB b x.1 = false) :
    kRows b p m (aft far8 x) = (kRows b p m []).drop (j + 1) := by
  refine rows_drop (kitV p m) far8 (by unfold far8; simp) (asc_kv (ok_asc hok).2.1) h fun hx o ho hb => ?_
  obtain ⟨y, hy, rfl⟩ := List.mem_map.1 ho
  have h1 := hf hx
  have hh : hpB (oKey y) x.1 = true := by rw [hp_pre]; exact pre_beg.2 hb
  cases hl : lessB (oKey y) (x.1 ++ far8) with
  | true => exact hl
  | false =>
    have : farB b x.1 = true := List.any_eq_true.2 ⟨y, hy, by rw [hh, hl]; rfl⟩
    rw [h1] at this; exact absurd this (by simp)
theorem short_200 {s : Tx} (h : s.length ≤ 208) : short s = true := decide_eq_true (by omega)
theorem pageK_m {R : List (Rw Ver)} {k : Int} (h1 : 1 ≤ k) (h2 : k ≤ 100) : kyN R k = decide (k.toNat < R.length) := by
  unfold kyN
  rw [pgE_ok h1 h2]
  show decide _ = decide _
  exact decide_eq_decide.2 (by omega)
theorem pageK_l {R : List (Rw Ver)} {k : Int} (h1 : 1 ≤ k) (h2 : k ≤ 100) : kyA R rowP k = (R.take k.toNat).map rowP := by
  unfold kyA
  rw [pgE_ok h1 h2]; rfl
theorem lastK {R : List (Rw Ver)} {k : Int} (h1 : 1 ≤ k) (h : k.toNat < R.length) : ∃ x, R[k.toNat - 1]? = some x ∧ x ∈ R ∧ ((R.take k.toNat).map rowP)[(k - 1).toNat]? = some (rowP x) := by
  refine ⟨R[k.toNat - 1], List.getElem?_eq_getElem (by omega), List.getElem_mem _, ?_⟩
  rw [List.getElem?_map, List.getElem?_take_of_lt (by omega), show (k - 1).toNat = k.toNat - 1 by omega, List.getElem?_eq_getElem (by omega)]
  rfl
theorem rowP_key (k0 : Tx) (v : Ver) : rowP (k0, false, v) = D.agg [D.str k0, D.bool false, D.agg [D.int .u64 v.id, D.bool v.mr, D.int .i64 v.sz, D.int .u64 v.bl, D.agg v.dg, D.int .i64 v.cr, D.agg [D.int .i64 v.md, D.int .i64 v.un, D.bool v.ho], D.slice .cl v.tg], D.bool true] := rfl
theorem rowP_grp (k0 : Tx) (v : Ver) : rowP (k0, true, v) = D.agg [D.str k0, D.bool true, D.agg [D.int .u64 v00.id, D.bool v00.mr, D.int .i64 v00.sz, D.int .u64 v00.bl, D.agg v00.dg, D.int .i64 v00.cr, D.agg [D.int .i64 v00.md, D.int .i64 v00.un, D.bool v00.ho], D.slice .nl v00.tg], D.bool false] := rfl
section
variable {nm : Tx} {md dy : Int} {c1 c2 c3 c4 : Cp} {rs gs os us : List D} {p m : Tx} {k : Int} {R : List (Rw Ver)}
/-! ### the end: groups that are far, or the same rows -/
def p23S (want got : List D) (b : D) (i : Int) : St := match got with
  | [] => ⟨[(9, .ptr 0 [] 32), (11, .sl 54 .any want), (14, .snil), (22, .i .i64 i)], [some (.box 32 (.d 32 b))]⟩
  | x :: l => ⟨[(9, .ptr 0 [] 32), (11, .sl 54 .any want), (14, .ref 54 1), (22, .i .i64 i)], [some (.box 32 (.d 32 b)), some (.arr 54 (x :: l) false)]⟩
theorem g5_23 (hK : bkK (D.agg [D.str nm, D.agg [D.int .i64 md, D.int .i64 dy], D.slice c1 rs, D.slice c2 gs, D.slice c3 os, D.slice c4 us]) = true) (hl : R.length ≤ 100) (hv : ∀ r ∈ R, vC (vD r.2.2) = true) (hk : ∀ r ∈ R, r.1.length ≤ 200) {got : List D} : ∀ (rest pre : List (Rw Ver)) (i : Int), R = pre ++ rest → i = (pre.length : Int) →
    ((∃ r ∈ rest, r.2.1 = true ∧ farB (D.agg [D.str nm, D.agg [D.int .i64 md, D.int .i64 dy], D.slice c1 rs, D.slice c2 gs, D.slice c3 os, D.slice c4 us]) r.1 = true) ∨ got = R.map rowP) →
    Goes (Γ mx) (W5 mx) 5 23 (p23S (R.map rowP) got (D.agg [D.str nm, D.agg [D.int .i64 md, D.int .i64 dy], D.slice c1 rs, D.slice c2 gs, D.slice c3 os, D.slice c4 us]) i) (.b true, [])
  | [], pre, i, he, hi, h => by
    subst hi
    have h : got = R.map rowP := by
      rcases h with ⟨r, hr, _⟩ | h
      · simp at hr
      · exact h
    have hrw : (rwC got && rwC (R.map rowP)) = true := by rw [h, rwC_k (by omega) hv]; rfl
    have hS : rowsS got (R.map rowP) = true := by rw [h]; exact sameK hv
    have hi : decide ((pre.length : Int) < ((R.map rowP).length : Int)) = false := decide_eq_false (by rw [List.length_map, he]; simp)
    clear h
    cases got with
    | nil => exact Goes.er (er_of (fun q => w5_23a _ (R.map rowP) _ nm md dy c1 rs c2 gs c3 os c4 us) (er_f hi (er_t hrw (er_is (by rw [hS])))))
    | cons x l => exact Goes.er (er_of (fun q => w5_23b _ (R.map rowP) _ nm md dy c1 rs c2 gs c3 os c4 us (x :: l)) (er_f hi (er_t hrw (er_is (by rw [hS])))))
  | x :: r, pre, i, he, hi, h => by
    subst hi
    have hlen : R.length = pre.length + (r.length + 1) := by rw [he]; simp
    have hx : x ∈ R := by rw [he]; simp
    have w1 : IntKind.wrap .i64 ((pre.length : Int) + 1) = (pre.length : Int) + 1 := wrapI (by omega) (by omega)
    have hi : decide ((pre.length : Int) < ((R.map rowP).length : Int)) = true := decide_eq_true (by rw [List.length_map]; omega)
    have hg : (R.map rowP)[((pre.length : Nat) : Int).toNat]? = some (rowP x) := by rw [List.getElem?_map, show R[((pre.length : Nat) : Int).toNat]? = some x by rw [he]; exact get_mid pre x r]; rfl
    have nx := fun hh => g5_23 hK hl hv hk (got := got) r (pre ++ [x]) ((pre.length : Int) + 1) (by rw [he]; simp) (by simp) hh
    have hkx := hk x hx
    obtain ⟨k0, gr, v⟩ := x
    have hkx : k0.length ≤ 200 := hkx
    have hc : (bkK (D.agg [D.str nm, D.agg [D.int .i64 md, D.int .i64 dy], D.slice c1 rs, D.slice c2 gs, D.slice c3 os, D.slice c4 us]) && short k0) = true := by rw [hK, short_200 (by omega)]; rfl
    cases gr with
    | false =>
      rw [rowP_key] at hg
      have nx := nx (h.imp (fun ⟨q, hq, h1, h2⟩ => ⟨q, (List.mem_cons.1 hq).resolve_left fun e => by rw [e] at h1; exact absurd h1 (by simp), h1, h2⟩) id)
      cases got with
      | nil =>
        refine Goes.er (er_of (fun q => w5_23a _ (R.map rowP) _ nm md dy c1 rs c2 gs c3 os c4 us) (er_t hi (er_idx (by omega) hg (er_agg (er_get rfl (er_b (er_f rfl ?_)))))))
        rw [w1]; exact er_lab nx
      | cons y l =>
        refine Goes.er (er_of (fun q => w5_23b _ (R.map rowP) _ nm md dy c1 rs c2 gs c3 os c4 us (y :: l)) (er_t hi (er_idx (by omega) hg (er_agg (er_get rfl (er_b (er_f rfl ?_)))))))
        rw [w1]; exact er_lab nx
    | true =>
      rw [rowP_grp] at hg
      cases hF : farB (D.agg [D.str nm, D.agg [D.int .i64 md, D.int .i64 dy], D.slice c1 rs, D.slice c2 gs, D.slice c3 os, D.slice c4 us]) k0 with
      | true =>
        cases got with
        | nil => exact Goes.er (er_of (fun q => w5_23a _ (R.map rowP) _ nm md dy c1 rs c2 gs c3 os c4 us) (er_t hi (er_idx (by omega) hg (er_agg (er_get rfl (er_b (er_t rfl (er_idx (by omega) hg (er_agg (er_get rfl (er_s (er_t hc (er_t hF er_some)))))))))))))
        | cons y l => exact Goes.er (er_of (fun q => w5_23b _ (R.map rowP) _ nm md dy c1 rs c2 gs c3 os c4 us (y :: l)) (er_t hi (er_idx (by omega) hg (er_agg (er_get rfl (er_b (er_t rfl (er_idx (by omega) hg (er_agg (er_get rfl (er_s (er_t hc (er_t hF er_some)))))))))))))
      | false =>
        have nx := nx (h.imp (fun ⟨q, hq, h1, h2⟩ => ⟨q, (List.mem_cons.1 hq).resolve_left fun e => by rw [e] at h2; rw [hF] at h2; exact absurd h2 (by simp), h1, h2⟩) id)
        cases got with
        | nil =>
          refine Goes.er (er_of (fun q => w5_23a _ (R.map rowP) _ nm md dy c1 rs c2 gs c3 os c4 us) (er_t hi (er_idx (by omega) hg (er_agg (er_get rfl (er_b (er_t rfl (er_idx (by omega) hg (er_agg (er_get rfl (er_s (er_t hc (er_f hF ?_)))))))))))))
          rw [w1]; exact er_lab nx
        | cons y l =>
          refine Goes.er (er_of (fun q => w5_23b _ (R.map rowP) _ nm md dy c1 rs c2 gs c3 os c4 us (y :: l)) (er_t hi (er_idx (by omega) hg (er_agg (er_get rfl (er_b (er_t rfl (er_idx (by omega) hg (er_agg (er_get rfl (er_s (er_t hc (er_f hF ?_)))))))))))))
          rw [w1]; exact er_lab nx
/-! ### the pages -/
def p9S (p m : Tx) (want : List D) (a : Tx) (k i : Int) (b : D) : List D → St
  | [] => ⟨[(1, .s p), (2, .s m), (9, .ptr 0 [] 32), (11, .sl 54 .any want), (13, .i .i64 0), (14, .snil), (15, .s a), (16, .i .i64 k), (17, .i .i64 i)], [some (.box 32 (.d 32 b))]⟩
  | x :: l => ⟨[(1, .s p), (2, .s m), (9, .ptr 0 [] 32), (11, .sl 54 .any want), (13, .i .i64 0), (14, .ref 54 1), (15, .s a), (16, .i .i64 k), (17, .i .i64 i)], [some (.box 32 (.d 32 b)), some (.arr 54 (x :: l) false)]⟩
/-- a page: the last one, or there are more -/
theorem s5_9 {A : List (Rw Ver)} {want got : List D} {a : Tx} {i : Int} (hk1 : 1 ≤ k) (hk2 : k ≤ 7) (hK : bkK (D.agg [D.str nm, D.agg [D.int .i64 md, D.int .i64 dy], D.slice c1 rs, D.slice c2 gs, D.slice c3 os, D.slice c4 us]) = true) (hgC : gC p m a = true) (hA : kRows (D.agg [D.str nm, D.agg [D.int .i64 md, D.int .i64 dy], D.slice c1 rs, D.slice c2 gs, D.slice c3 os, D.slice c4 us]) p m a = A) (hA2 : ∀ r ∈ A, r.1.length ≤ 200) (hi : 0 ≤ i) (hi2 : i < 120) (hgl : got.length ≤ 1000)
    (hE : A.length ≤ k.toNat → Goes (Γ mx) (W5 mx) 5 23 (p23S want (got ++ A.map rowP) (D.agg [D.str nm, D.agg [D.int .i64 md, D.int .i64 dy], D.slice c1 rs, D.slice c2 gs, D.slice c3 os, D.slice c4 us]) 0) (.b true, []))
    (hN : ∀ x, k.toNat < A.length → A[k.toNat - 1]? = some x → Goes (Γ mx) (W5 mx) 5 9 (p9S p m want (aft far8 x) k (i + 1) (D.agg [D.str nm, D.agg [D.int .i64 md, D.int .i64 dy], D.slice c1 rs, D.slice c2 gs, D.slice c3 os, D.slice c4 us]) (got ++ (A.take k.toNat).map rowP)) (.b true, [])) :
    Goes (Γ mx) (W5 mx) 5 9 (p9S p m want a k i (D.agg [D.str nm, D.agg [D.int .i64 md, D.int .i64 dy], D.slice c1 rs, D.slice c2 gs, D.slice c3 os, D.slice c4 us]) got) (.b true, []) := by
  have e1 := pageK_l (R := A) hk1 (show k ≤ 100 by omega)
  have e2 := pageK_m (R := A) hk1 (show k ≤ 100 by omega)
  have e3 := pgE_ok hk1 (show k ≤ 100 by omega)
  have w1 : IntKind.wrap .i64 (i + 1) = i + 1 := wrapI (by omega) (by omega)
  have hlen : ((A.take k.toNat).map rowP).length = min k.toNat A.length := by simp
  have hc : (bkK (D.agg [D.str nm, D.agg [D.int .i64 md, D.int .i64 dy], D.slice c1 rs, D.slice c2 gs, D.slice c3 os, D.slice c4 us]) && gC p m a) = true := by rw [hK, hgC]; rfl
  by_cases hm : k.toNat < A.length
  · obtain ⟨x, hx1, hx2, hx3⟩ := lastK hk1 hm
    have nx := hN x hm hx1
    have hkx := hA2 x hx2
    have hlk : (((A.take k.toNat).map rowP).length : Int) = k := by rw [hlen]; omega
    have w2 : IntKind.wrap .i64 (k - 1) = k - 1 := wrapI (by omega) (by omega)
    obtain ⟨k0, gr, v⟩ := x
    have hkx : k0.length ≤ 200 := hkx
    have hms : decide (k0.length + ([244, 143, 191, 191, 244, 143, 191, 191] : List UInt8).length ≤ maxStr) = true := decide_eq_true (by simp [maxStr]; omega)
    cases got with
    | nil =>
      refine Goes.er (er_of (fun n => w5_9a _ p m want 0 a k i nm md dy c1 rs c2 gs c3 os c4 us) ?_)
      rw [hA, e1, e2, e3, w1, decide_eq_true hm, hlk, w2]
      have hroom : roomB ((A.take k.toNat).map rowP).length 152 = true := room152 (by rw [hlen]; omega)
      refine er_t (decide_eq_true (by omega)) (er_t hc (er_f rfl (er_f (decide_eq_false (by omega)) (er_t rfl (er_f (by simp) (er_onnil (fun h => ?_) fun hne => er_t hroom (er_f rfl ?_)))))))
      · exfalso; rw [h] at hlk; simp at hlk; omega
      rw [List.nil_append] at nx
      generalize (A.take k.toNat).map rowP = l at nx hx3 hne ⊢
      cases l with
      | nil => exact absurd rfl hne
      | cons y l =>
      cases gr with
      | true =>
        rw [rowP_grp] at hx3
        exact er_idx (by omega) hx3 (er_agg (er_lc (er_s (er_lc (er_b (er_lc (er_agg (er_lc (er_u (er_lc (er_b (er_lc (er_i (er_lc (er_u (er_lc (er_agg (er_lc (er_i (er_lc (er_agg (er_lc (er_i (er_lc (er_i (er_lc (er_b (er_ln (er_lc (er_sl (er_ln (er_lc (er_b (er_ln (er_t rfl (er_t hms (er_lab nx)))))))))))))))))))))))))))))))))))))
      | false =>
        rw [rowP_key] at hx3
        exact er_idx (by omega) hx3 (er_agg (er_lc (er_s (er_lc (er_b (er_lc (er_agg (er_lc (er_u (er_lc (er_b (er_lc (er_i (er_lc (er_u (er_lc (er_agg (er_lc (er_i (er_lc (er_agg (er_lc (er_i (er_lc (er_i (er_lc (er_b (er_ln (er_lc (er_sl (er_ln (er_lc (er_b (er_ln (er_f rfl (er_lab nx))))))))))))))))))))))))))))))))))))
    | cons g0 gl =>
      refine Goes.er (er_of (fun n => w5_9b _ p m want 0 a k i nm md dy c1 rs c2 gs c3 os c4 us (g0 :: gl)) ?_)
      rw [hA, e1, e2, e3, w1, decide_eq_true hm, hlk, w2]
      have hroom : roomB ((g0 :: gl).length + ((A.take k.toNat).map rowP).length) 152 = true := room152 (by rw [hlen]; omega)
      refine er_t (decide_eq_true (by omega)) (er_t hc (er_f rfl (er_f (decide_eq_false (by omega)) (er_t rfl (er_f (by simp) (er_t hroom (er_f rfl ?_)))))))
      cases gr with
      | true =>
        rw [rowP_grp] at hx3
        exact er_idx (by omega) hx3 (er_agg (er_lc (er_s (er_lc (er_b (er_lc (er_agg (er_lc (er_u (er_lc (er_b (er_lc (er_i (er_lc (er_u (er_lc (er_agg (er_lc (er_i (er_lc (er_agg (er_lc (er_i (er_lc (er_i (er_lc (er_b (er_ln (er_lc (er_sl (er_ln (er_lc (er_b (er_ln (er_t rfl (er_t hms (er_lab nx)))))))))))))))))))))))))))))))))))))
      | false =>
        rw [rowP_key] at hx3
        exact er_idx (by omega) hx3 (er_agg (er_lc (er_s (er_lc (er_b (er_lc (er_agg (er_lc (er_u (er_lc (er_b (er_lc (er_i (er_lc (er_u (er_lc (er_agg (er_lc (er_i (er_lc (er_agg (er_lc (er_i (er_lc (er_i (er_lc (er_b (er_ln (er_lc (er_sl (er_ln (er_lc (er_b (er_ln (er_f rfl (er_lab nx))))))))))))))))))))))))))))))))))))
  · have nx := hE (by omega)
    have ht : A.take k.toNat = A := List.take_of_length_le (by omega)
    have hlA : A.length ≤ k.toNat := by omega
    cases got with
    | nil =>
      refine Goes.er (er_of (fun n => w5_9a _ p m want 0 a k i nm md dy c1 rs c2 gs c3 os c4 us) ?_)
      rw [hA, e1, e2, e3, w1, decide_eq_false hm, ht]
      have hroom : roomB (A.map rowP).length 152 = true := room152 (by rw [List.length_map]; omega)
      refine er_t (decide_eq_true (by omega)) (er_t hc (er_f rfl (er_f (decide_eq_false (by rw [List.length_map]; omega)) (er_f rfl ?_))))
      rw [List.nil_append] at nx
      generalize A.map rowP = l at nx hroom ⊢
      cases l with
      | nil => exact er_onnil (fun _ => er_t rfl (er_f rfl (er_lab nx))) fun h => absurd rfl h
      | cons y l => exact er_onnil (fun h => absurd h (by simp)) fun _ => er_t hroom (er_t rfl (er_f rfl (er_lab nx)))
    | cons g0 gl =>
      refine Goes.er (er_of (fun n => w5_9b _ p m want 0 a k i nm md dy c1 rs c2 gs c3 os c4 us (g0 :: gl)) ?_)
      rw [hA, e1, e2, e3, w1, decide_eq_false hm, ht]
      have hroom : roomB ((g0 :: gl).length + (A.map rowP).length) 152 = true := room152 (by rw [List.length_map]; omega)
      exact er_t (decide_eq_true (by omega)) (er_t hc (er_f rfl (er_f (decide_eq_false (by rw [List.length_map]; omega)) (er_f rfl (er_t hroom (er_t rfl (er_f rfl (er_lab nx))))))))
/-- all pages were told: on to the end -/
theorem s5_120 {want got : List D} {a : Tx} {i : Int} (hi : 120 ≤ i) (hE : Goes (Γ mx) (W5 mx) 5 23 (p23S want got (D.agg [D.str nm, D.agg [D.int .i64 md, D.int .i64 dy], D.slice c1 rs, D.slice c2 gs, D.slice c3 os, D.slice c4 us]) 0) (.b true, [])) : Goes (Γ mx) (W5 mx) 5 9 (p9S p m want a k i (D.agg [D.str nm, D.agg [D.int .i64 md, D.int .i64 dy], D.slice c1 rs, D.slice c2 gs, D.slice c3 os, D.slice c4 us]) got) (.b true, []) := by
  cases got with
  | nil => exact Goes.er (er_of (fun n => w5_9a _ p m want 0 a k i nm md dy c1 rs c2 gs c3 os c4 us) (er_f (decide_eq_false (by omega)) (er_f rfl (er_lab hE))))
  | cons g0 gl => exact Goes.er (er_of (fun n => w5_9b _ p m want 0 a k i nm md dy c1 rs c2 gs c3 os c4 us (g0 :: gl)) (er_f (decide_eq_false (by omega)) (er_f rfl (er_lab hE))))
theorem aft_len {x : Rw Ver} (h : x.1.length ≤ 200) : (aft far8 x).length ≤ 208 := by
  unfold aft
  split
  · rw [List.length_append, show far8.length = 8 from rfl]; omega
  · omega
theorem g5_9 (hk1 : 1 ≤ k) (hk2 : k ≤ 7) (hK : bkK (D.agg [D.str nm, D.agg [D.int .i64 md, D.int .i64 dy], D.slice c1 rs, D.slice c2 gs, D.slice c3 os, D.slice c4 us]) = true) (hok : okOs none 0 os = true) (hR : kRows (D.agg [D.str nm, D.agg [D.int .i64 md, D.int .i64 dy], D.slice c1 rs, D.slice c2 gs, D.slice c3 os, D.slice c4 us]) p m [] = R) (hl : R.length ≤ 100) (hsp : short p = true) (hsm : short m = true) (hv : ∀ r ∈ R, vC (vD r.2.2) = true) (hkk : ∀ r ∈ R, r.1.length ≤ 200) :
    ∀ (f : Nat) (i : Nat) (a : Tx) (got : List D), 120 ≤ i + f → i ≤ 120 → short a = true → got.length ≤ 7 * i →
      ((∃ r ∈ R, r.2.1 = true ∧ farB (D.agg [D.str nm, D.agg [D.int .i64 md, D.int .i64 dy], D.slice c1 rs, D.slice c2 gs, D.slice c3 os, D.slice c4 us]) r.1 = true) ∨ ((∀ r ∈ R, r.2.1 = true → farB (D.agg [D.str nm, D.agg [D.int .i64 md, D.int .i64 dy], D.slice c1 rs, D.slice c2 gs, D.slice c3 os, D.slice c4 us]) r.1 = false) ∧ ∃ j, i ≤ j ∧ j ≤ R.length ∧ got = (R.take j).map rowP ∧ kRows (D.agg [D.str nm, D.agg [D.int .i64 md, D.int .i64 dy], D.slice c1 rs, D.slice c2 gs, D.slice c3 os, D.slice c4 us]) p m a = R.drop j)) →
      Goes (Γ mx) (W5 mx) 5 9 (p9S p m (R.map rowP) a k (i : Int) (D.agg [D.str nm, D.agg [D.int .i64 md, D.int .i64 dy], D.slice c1 rs, D.slice c2 gs, D.slice c3 os, D.slice c4 us]) got) (.b true, [])
  | 0, i, a, got, hf, hi, ha, hgl, hinv => by
    refine s5_120 (by omega) (g5_23 hK hl hv hkk R [] 0 rfl rfl ?_)
    rcases hinv with h | ⟨_, j, hj1, hj2, _⟩
    · exact .inl h
    · omega
  | f + 1, i, a, got, hf, hi, ha, hgl, hinv => by
    by_cases hi2 : i < 120
    · refine s5_9 hk1 hk2 hK (by unfold gC; rw [hsp, hsm, ha]; rfl) rfl (kRows_key (b := D.agg [D.str nm, D.agg [D.int .i64 md, D.int .i64 dy], D.slice c1 rs, D.slice c2 gs, D.slice c3 os, D.slice c4 us]) hok p m a) (by omega) (by omega) (by omega) (fun hA => ?_) (fun x hA hx => ?_)
      · refine g5_23 hK hl hv hkk R [] 0 rfl rfl ?_
        rcases hinv with h | ⟨_, j, hj1, hj2, h3, h4⟩
        · exact .inl h
        · refine .inr ?_
          rw [h3, h4, ← List.map_append, List.take_append_drop]
      · have hx2 := List.mem_of_getElem? hx
        have := g5_9 hk1 hk2 hK hok hR hl hsp hsm hv hkk f (i + 1) (aft far8 x) (got ++ ((kRows (D.agg [D.str nm, D.agg [D.int .i64 md, D.int .i64 dy], D.slice c1 rs, D.slice c2 gs, D.slice c3 os, D.slice c4 us]) p m a).take k.toNat).map rowP) (by omega) (by omega) (short_200 (aft_len (kRows_key (b := D.agg [D.str nm, D.agg [D.int .i64 md, D.int .i64 dy], D.slice c1 rs, D.slice c2 gs, D.slice c3 os, D.slice c4 us]) hok p m a x hx2))) (by rw [List.length_append, List.length_map, List.length_take]; omega) (by
          rcases hinv with h | ⟨h0, j, hj1, hj2, h3, h4⟩
          · exact .inl h
          · refine .inr ⟨h0, j + k.toNat, by omega, ?_, ?_, ?_⟩
            · rw [h4, List.length_drop] at hA; omega
            · rw [h3, h4, ← List.map_append, ← List.take_add]
            · rw [h4, List.getElem?_drop] at hx
              have hxR : x ∈ R := List.mem_of_getElem? hx
              have e := kRows_next (p := p) (m := m) (b := D.agg [D.str nm, D.agg [D.int .i64 md, D.int .i64 dy], D.slice c1 rs, D.slice c2 gs, D.slice c3 os, D.slice c4 us]) hok (by rw [hR]; exact hx) (h0 x hxR)
              rw [hR, show j + (k.toNat - 1) + 1 = j + k.toNat by omega] at e
              exact e)
        rw [show (((i + 1 : Nat)) : Int) = (i : Int) + 1 by omega] at this
        exact this
    · refine s5_120 (by omega) (g5_23 hK hl hv hkk R [] 0 rfl rfl ?_)
      rcases hinv with h | ⟨_, j, hj1, hj2, _⟩
      · exact .inl h
      · omega
end
theorem law5 (s : D) (p m : Tx) (q : Int) (hs : stC s = true) (hsp : short p = true) (hsm : short m = true) (hm1 : 0 ≤ q) (hm2 : q ≤ 255) : RetX (Γ mx) 5 [.d 24 s, .s p, .s m, .i .u8 q] [] (.b true) [] := by
  have hs0 := hs
  obtain ⟨sm, sn, sb, sc, sl, rfl, hl⟩ := stC_ex hs
  have : EXR (.b true, []) fun k => evF (Γ mx) (W5 mx) (L (Γ mx) (W5 mx) 5 k) 5 [.d 24 (D.agg [D.int .i64 sm, D.int .u64 sn, D.int .u64 sb, D.slice sc sl]), .s p, .s m, .i .u8 q] [] := by
    refine er_of (fun k => w5 _ sm sn sb sc sl p m q) ?_
    refine er_t hs0 ?_
    cases hf : firB mx (D.agg [D.int .i64 sm, D.int .u64 sn, D.int .u64 sb, D.slice sc sl]) with
    | false =>
      have hD : firD mx (D.agg [D.int .i64 sm, D.int .u64 sn, D.int .u64 sb, D.slice sc sl]) = D.agg [D.str [], D.agg [D.int .i64 0, D.int .i64 0], D.slice .nl [], D.slice .nl [], D.slice .nl [], D.slice .nl []] := by
        unfold firD; rw [hf]; rfl
      rw [hD]
      exact er_agg (er_lc (er_s (er_lc (er_agg (er_lc (er_i (er_lc (er_i (er_ln (er_lc (er_sl (er_lc (er_sl (er_lc (er_sl (er_lc (er_sl (er_ln (er_t rfl er_some)))))))))))))))))))
    | true =>
      obtain ⟨y, r, hy1, hD, hbk, hok⟩ := fir_ok hs0 hf
      have hK := bkK_of hbk hok
      rw [hD]
      obtain ⟨nm, md, dy, c1, rs, c2, gs, c3, os, c4, us, rfl, _⟩ := bkC_ex hbk
      refine er_agg (er_lc (er_s (er_lc (er_agg (er_lc (er_i (er_lc (er_i (er_ln (er_lc (er_sl (er_lc (er_sl (er_lc (er_sl (er_lc (er_sl (er_ln (er_f rfl ?_)))))))))))))))))))
      refine er_if (fun _ => er_some) (fun h => ?_)
      have h : ¬ (os.length : Int) > 100 := of_decide_eq_false h
      have hq : IntKind.wrap .i64 (1 + (IntKind.wrap .i64 (Int.tmod q 7))) = 1 + q % 7 := by
        rw [Int.tmod_eq_emod_of_nonneg hm1, show IntKind.wrap .i64 (q % 7) = q % 7 from wrapI (by omega) (by omega), wrapI (by omega) (by omega)]
      have hl : (kRows (D.agg [D.str nm, D.agg [D.int .i64 md, D.int .i64 dy], D.slice c1 rs, D.slice c2 gs, D.slice c3 os, D.slice c4 us]) p m ([] : List UInt8)).length ≤ 100 := by
        have : (kRows (D.agg [D.str nm, D.agg [D.int .i64 md, D.int .i64 dy], D.slice c1 rs, D.slice c2 gs, D.slice c3 os, D.slice c4 us]) p m ([] : List UInt8)).length ≤ (os.map kvO).length := rows_len _ _ _
        rw [List.length_map] at this
        omega
      have hw : kyA (kRows (D.agg [D.str nm, D.agg [D.int .i64 md, D.int .i64 dy], D.slice c1 rs, D.slice c2 gs, D.slice c3 os, D.slice c4 us]) p m ([] : List UInt8)) rowP 100 = (kRows (D.agg [D.str nm, D.agg [D.int .i64 md, D.int .i64 dy], D.slice c1 rs, D.slice c2 gs, D.slice c3 os, D.slice c4 us]) p m ([] : List UInt8)).map rowP := by
        rw [pageK_l (by omega) (by omega), show (100 : Int).toNat = 100 from rfl, List.take_of_length_le hl]
      have hv := kRows_vC hbk p m []
      have hkk := kRows_key (b := D.agg [D.str nm, D.agg [D.int .i64 md, D.int .i64 dy], D.slice c1 rs, D.slice c2 gs, D.slice c3 os, D.slice c4 us]) hok p m []
      rw [hq, hw, show pgE 100 = 0 from rfl]
      refine er_t (by rw [hK]; unfold gC; rw [hsp, hsm]; rfl) (er_lab ?_)
      refine g5_9 (R := (kRows (D.agg [D.str nm, D.agg [D.int .i64 md, D.int .i64 dy], D.slice c1 rs, D.slice c2 gs, D.slice c3 os, D.slice c4 us]) p m ([] : List UInt8))) (by omega) (by omega) hK hok rfl hl hsp hsm hv hkk 120 0 [] [] (by omega) (by omega) rfl (by simp) ?_
      by_cases hF : ∃ r ∈ (kRows (D.agg [D.str nm, D.agg [D.int .i64 md, D.int .i64 dy], D.slice c1 rs, D.slice c2 gs, D.slice c3 os, D.slice c4 us]) p m ([] : List UInt8)), r.2.1 = true ∧ farB (D.agg [D.str nm, D.agg [D.int .i64 md, D.int .i64 dy], D.slice c1 rs, D.slice c2 gs, D.slice c3 os, D.slice c4 us]) r.1 = true
      · exact .inl hF
      · refine .inr ⟨fun r hr hg => ?_, 0, Nat.le_refl _, Nat.zero_le _, rfl, rfl⟩
        cases hx : farB (D.agg [D.str nm, D.agg [D.int .i64 md, D.int .i64 dy], D.slice c1 rs, D.slice c2 gs, D.slice c3 os, D.slice c4 us]) r.1 with
        | false => rfl
        | true => exact absurd ⟨r, hr, hg, hx⟩ hF
  obtain ⟨k, hk⟩ := this
  exact ret_goes (Γ := Γ mx) hP hZ W5_ok (by kernel_rfl) ⟨k, hk⟩
end Go.Proofs.Ytapaenfafjmljaa.V
