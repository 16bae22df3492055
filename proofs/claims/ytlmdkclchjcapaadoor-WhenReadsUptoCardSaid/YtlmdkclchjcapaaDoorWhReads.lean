/- WhenReads, for every input, is true: chartularylaw05.WhenReads, where the arguments are of bulk at most 1048576 and the package variables that are listed hold what the program's text lays (the card ties them). -/
import Derived.Test.YtlmdkclchjcapaaDoorFrY
import Derived.Test.YtlmdkclchjcapaaDoorWhN
import Derived.Test.YtlmdkclchjcapaaDoorCards
import Derived.Test.YtlmdkclchjcapaaDoorTie
import Derived.Deep.DeepHandedRow
import Derived.Deep.DeepWitnessRowRef
import Derived.Lay
import Derived.WalkKit
import Derived.ProofKit
import Derived.OpenShut
import Derived.Shelf.Vars
namespace Go.Proofs.YtlmdkclchjcapaaDoor
open Go Go.ChangeShapes Go.WideShapes Go.ChangeAt Go.RowKit
open V
set_option maxRecDepth 100000
set_option linter.unusedVariables false
set_option linter.unusedSimpArgs false

theorem has_str {P : Program} {y : D} {t : TypeId} {w : World} {S : Addr → Prop} {vs : List Value} (ht : und P t = some .string) (h : RepT P w S y t vs) : ∃ l, y = .str l := by
  cases y <;> simp only [RepT] at h
  case str l => exact ⟨l, rfl⟩
  case int k n => rw [ht] at h; simp at h
  case bool b => rw [ht] at h; simp at h
  case slice c xs => obtain ⟨e, a, cap, h, _⟩ := h; rw [ht] at h; simp at h
  case agg fs =>
    rcases h with ⟨flds, h, _⟩ | ⟨n, e, h, _⟩ <;> (rw [ht] at h; simp at h)
theorem has_int {P : Program} {y : D} {t : TypeId} {k : IntKind} {w : World} {S : Addr → Prop} {vs : List Value} (ht : und P t = some (.int k)) (h : RepT P w S y t vs) (hf : fineD y) : ∃ n, y = .int k n ∧ k.min ≤ n ∧ n ≤ k.max := by
  cases y <;> simp only [RepT] at h
  case int k' n =>
    rw [ht] at h
    obtain ⟨h, _⟩ := h
    cases h
    simp only [fineD] at hf
    exact ⟨n, rfl, hf.1, hf.2⟩
  case str l => rw [ht] at h; simp at h
  case bool b => rw [ht] at h; simp at h
  case slice c xs => obtain ⟨e, a, cap, h, _⟩ := h; rw [ht] at h; simp at h
  case agg fs =>
    rcases h with ⟨flds, h, _⟩ | ⟨n, e, h, _⟩ <;> (rw [ht] at h; simp at h)
theorem has_bool {P : Program} {y : D} {t : TypeId} {w : World} {S : Addr → Prop} {vs : List Value} (ht : und P t = some .bool) (h : RepT P w S y t vs) : ∃ b, y = .bool b := by
  cases y <;> simp only [RepT] at h
  case bool b => exact ⟨b, rfl⟩
  case int k n => rw [ht] at h; simp at h
  case str l => rw [ht] at h; simp at h
  case slice c xs => obtain ⟨e, a, cap, h, _⟩ := h; rw [ht] at h; simp at h
  case agg fs =>
    rcases h with ⟨flds, h, _⟩ | ⟨n, e, h, _⟩ <;> (rw [ht] at h; simp at h)
theorem fs_cons {P : Program} {w : World} {S : Addr → Prop} {ys : List D} {t : TypeId} {ts : List TypeId} {vs : List Value} (h : RepFs P w S ys (t :: ts) vs) : ∃ y r v1 v2, ys = y :: r ∧ RepT P w S y t v1 ∧ RepFs P w S r ts v2 := by
  cases ys with
  | nil => simp [RepFs] at h
  | cons y r =>
    simp only [RepFs] at h
    obtain ⟨t', ts', v1, v2, h1, _, h3, h4⟩ := h
    cases h1
    exact ⟨y, r, v1, v2, rfl, h3, h4⟩
theorem fs_nil {P : Program} {w : World} {S : Addr → Prop} {ys : List D} {vs : List Value} (h : RepFs P w S ys [] vs) : ys = [] := by
  cases ys with
  | nil => rfl
  | cons y r => simp only [RepFs] at h; obtain ⟨t', ts', v1, v2, h1, _⟩ := h; cases h1
theorem lawD (mx : Int) (ys : List D) (h : HasL (Γ true mx).P ys [9]) (hf : fineL ys) (hb : bulkL ys ≤ 1048576) : Ret (Γ true mx) 9 (argsOf (Γ true mx).P [9] ys) (.b true) := by
  obtain ⟨w, S, vs, h⟩ := h
  obtain ⟨y1, r1, _, _, rfl, h1, q1⟩ := fs_cons h
  simp only [fineL] at hf
  obtain ⟨g1, hf⟩ := hf
  obtain ⟨x1, rfl⟩ := has_str (by kernel_rfl) h1
  obtain rfl := fs_nil q1
  simp only [bulkL, bulkD] at hb
  have b1 : x1.length ≤ 1048576 := by omega
  exact (law9 x1 b1).ret (by kernel_rfl)

/-! ### the claim -/
theorem ownK : ownKnob Tryd.prog.godebug = none := by kernel_rfl
theorem globs_ok (mx : Int) {W : World} (h : laidMetH Tryd.prog Rows.whenReadsUptoRow.laid W) (hm : W.cell? ⟨4, 0, none⟩ = some (.int .i64 mx)) : GlobOK (Γ true mx) W (InW W) := by
  have h : laidMet Tryd.prog Rows.whenReadsUptoRow.laid W := h
  refine ⟨?_, ?_⟩
  rotate_left
  · intro g hg
    have hg : g ∈ ([1, 2] : List Nat) := hg
    simp only [List.mem_cons, List.not_mem_nil, or_false] at hg
    rcases hg with rfl | rfl
    · exact if_of h (n := "strconv.ErrSyntax") (t := 61) (List.mem_cons_of_mem _ (List.mem_cons_of_mem _ (List.mem_cons_of_mem _ (List.mem_cons_of_mem _ (List.mem_cons_self ..))))) (by kernel_rfl) (by kernel_rfl) (by kernel_rfl)
    · exact if_of h (n := "strconv.ErrRange") (t := 61) (List.mem_cons_of_mem _ (List.mem_cons_of_mem _ (List.mem_cons_of_mem _ (List.mem_cons_self ..)))) (by kernel_rfl) (by kernel_rfl) (by kernel_rfl)
  intro g t x hg
  match g, hg with
  | 0, hg =>
    cases hg
    exact glob_of hP h (n := "chartulary/when.units") (List.mem_cons_of_mem _ (List.mem_cons_of_mem _ (List.mem_cons_of_mem _ (List.mem_cons_of_mem _ (List.mem_cons_of_mem _ (List.mem_cons_self ..)))))) (by kernel_rfl) (by kernel_rfl) (by kernel_rfl) (by kernel_rfl)
  | 3, hg =>
    cases hg
    exact glob_of hP h (n := "internal/strconv.uint64pow10") (List.mem_cons_of_mem _ (List.mem_cons_of_mem _ (List.mem_cons_self ..))) (by kernel_rfl) (by kernel_rfl) (by kernel_rfl) (by kernel_rfl)
  | 4, hg =>
    cases hg
    refine ⟨[.int .i64 mx], fun j v hj => ?_, ?_, fun fs hfs => by cases hfs⟩
    · match j, hj with
      | 0, hj => cases hj; exact ⟨hm, in_world hm⟩
      | j + 1, hj => exact absurd hj (by simp)
    · simp only [RepT]
      exact ⟨by kernel_rfl, trivial⟩
theorem contract (H : Type) (enc : TypeId × Value → H) (W : World) (base : Nat) (args : Array Value) (ds gs : List (DataW H)) (before : List MemPlace)
    (hval : ∀ (j : Nat) t v, Tryd.f9.params[j]? = some t → args[j]? = some v → Value.okWide Tryd.prog W .any base t v)
    (hW : DataW.Whole enc Tryd.prog Tryd.f9.params.toList Rows.whenReadsSpec.vars false W args.toList ds gs before) (hL : laidMetH Tryd.prog Rows.whenReadsUptoRow.laid W) (hsh : W.ShapedOpen Tryd.prog) (hk : Rows.uptoSmall H (ds ++ gs) = true) :
    Calls Tryd.prog 9 args W fun e W' => ∃ v, e = .returned v ∧ Rows.whenReadsSpec.post enc Tryd.prog Tryd.f9 false true false false W args v W' := by
  obtain ⟨mx, hm⟩ := cell_of_shapedOpen_int (zero := #[.int .i64 0]) (t := 3) hsh (g := 4) (of_decide_eq_true (by kernel_rfl)) (by kernel_rfl) rfl (by kernel_rfl) (by kernel_rfl) Tryd.underlying3
  exact contract_ok (Γ := (Γ true mx)) hP (by kernel_rfl) (by kernel_rfl) (by kernel_rfl) (tb := 4) Tryd.func9 (by kernel_rfl) (by kernel_rfl) (by kernel_rfl) (by kernel_rfl) (by kernel_rfl) (s := Rows.whenReadsSpec) rfl
    (fun ds hd => by
      have hd : ds.length = 1 := hd
      match ds, hd with
      | [_], _ => rfl)
    (fun ys h hf hb => lawD mx ys h hf hb) W (globs_ok mx hL hm) base args ds gs before hval hW hk
theorem laid_met (os : Os) : laidMet Tryd.prog Rows.whenReadsUptoRow.laid ((World.laidAll Tryd.prog os Rows.whenReadsUptoRow.laid).forCall (fun _ _ => 0) ⟨#[], #[.string .empty], []⟩).memory :=
  laidMet_laidAll #[.string .empty] (by kernel_rfl) (by kernel_rfl)
theorem reads (os : Os) {H : Type} (enc : TypeId × Value → H) : ∃ places, DataW.whole enc Tryd.prog ((World.laidAll Tryd.prog os Rows.whenReadsUptoRow.laid).forCall (fun _ _ => 0) ⟨#[], #[.string .empty], []⟩).memory Tryd.f9.params.toList Rows.whenReadsSpec.vars false (#[.string .empty] : Array Value).toList 8 = some ([.lit (.string [])], [], places) :=
  ⟨[], by kernel_rfl⟩
theorem lifted (os : Os) (started : os.Started) (H : Type) (enc : TypeId × Value → H) (F : Stop.Interp) :
    ReturnsInHanded {} Tryd.checked os 9 .any ((Rows.OpenSpec.upto Rows.whenReadsSpec).preRow enc Tryd.prog Tryd.f9 Rows.whenReadsUptoRow.domain false Rows.whenReadsUptoRow.laid) (((Rows.OpenSpec.upto Rows.whenReadsSpec).at F).post enc Tryd.prog Tryd.f9 false true false false) := by
  obtain ⟨places, hx⟩ := reads os enc
  refine returnsInHanded_of_row (C := Tryd.checked) (s := Rows.OpenSpec.upto Rows.whenReadsSpec) ownK started (by kernel_rfl) Tryd.func9
    (witness_row_atRef (enc := enc) (C := Tryd.checked) false (World.laidAll Tryd.prog os Rows.whenReadsUptoRow.laid) #[.string .empty] (World.laidAll_os _ _ _) (by kernel_rfl) (by kernel_rfl) (by kernel_rfl)
      (OpenSpec.preRow_of_cond 8 hx (by kernel_rfl) (fun k hk => by cases hk; kernel_rfl) (by kernel_rfl) (laid_met os))) ?_
  intro W base args ds gs before hval hW h1 h2 h3 hL h5 h6
  first
    | exact contract H enc W base args ds gs before hval hW hL h5 (h1 _ rfl)
    | exact contract H enc W base args ds gs before hval hW hL h5 (h2 _ rfl)
    | exact contract H enc W base args ds gs before hval hW hL h5 (h3 _ rfl)
theorem said : Rows.WhenReadsUptoSaid :=
  OpenClaim.holds_of_cond 9 Tryd.f9 rfl rfl rfl rfl rfl rfl rfl ⟨rfl, rfl, rfl, rfl, rfl⟩ rfl rfl rfl rfl rfl (by kernel_rfl) Tryd.func9 (by kernel_rfl)
    (of_decide_eq_true (by kernel_rfl)) (by unfold Func.isWrapper; first | (rw [if_pos (by decide +kernel)]; kernel_rfl) | (rw [if_neg (by decide +kernel)]; exact ⟨rfl, rfl⟩))
    (fun os started H enc _ F => by rw [OpenClaim.pre_eq_preRow]; exact lifted os started H enc F)
theorem stand : ∀ t ∈ ([9] : List TypeId), Tryd.prog.wantsStandIn t = false := by
  intro t ht
  simp only [List.mem_cons, List.not_mem_nil, or_false] at ht
  subst ht <;> exact (by kernel_rfl)
theorem plain (f : FuncId) (fn : Func) (hf : Tryd.pinned.checked.prog.funcNamed "chartulary/chartularylaw05.WhenReads" = some f) (hfn : Tryd.pinned.checked.prog.funcs[f]? = some fn) :
    true = Tryd.pinned.checked.prog.looks [] ∧ ∀ (j : Nat) t, fn.params[j]? = some t → Tryd.pinned.checked.prog.wantsStandIn t = false := by
  obtain rfl : f = 9 := Option.some.inj ((show Tryd.prog.funcNamed "chartulary/chartularylaw05.WhenReads" = some 9 by kernel_rfl).symm.trans hf) |>.symm
  obtain rfl : fn = Tryd.f9 := (Option.some.inj (Tryd.func9.symm.trans hfn)).symm
  refine ⟨by kernel_rfl, fun j t ht => ?_⟩
  rw [Tryd.params9] at ht
  exact stand t (by simpa using Array.mem_of_getElem? ht)
/-- the card -/
theorem card : Rows.WhenReadsUptoCardSaid :=
  Claim7.holds_tied_plain_at .later [] _ _ _ _ said (fun _ h => by cases h) (by kernel_rfl) (fun _ h => by cases h) whenReadsUpto_row_tie rfl ⟨rfl, rfl⟩ (by kernel_rfl) rfl plain (by kernel_rfl)
#print axioms card
end Go.Proofs.YtlmdkclchjcapaaDoor
