/- LabelNames, for every input, is true: chartularylaw06.LabelNames, where the arguments are of bulk at most 1048576 and the package variables that are listed hold what the program's text lays (the card ties them). -/
import Derived.Test.YtdelibcanngipaaDoorFrY
import Derived.Test.YtdelibcanngipaaDoorLeE
import Derived.Test.YtdelibcanngipaaDoorCards
import Derived.Test.YtdelibcanngipaaDoorTie
import Derived.Deep.DeepHandedRow
import Derived.WalkKit
import Derived.ProofKit
import Derived.OpenShut
import Derived.Shelf.Vars
namespace Go.Proofs.YtdelibcanngipaaDoor
open Go Go.ChangeShapes Go.WideShapes Go.ChangeAt Go.RowKit
open V
set_option maxRecDepth 100000
set_option linter.unusedVariables false

theorem has_str {P : Program} {y : D} {t : TypeId} {w : World} {S : Addr → Prop} {vs : List Value} (ht : und P t = some .string) (h : RepT P w S y t vs) : ∃ l, y = .str l := by
  cases y <;> simp only [RepT] at h
  case str l => exact ⟨l, rfl⟩
  case int k n => rw [ht] at h; simp at h
  case bool b => rw [ht] at h; simp at h
  case slice c xs => obtain ⟨e, a, cap, h, _⟩ := h; rw [ht] at h; simp at h
  case agg fs =>
    rcases h with ⟨flds, h, _⟩ | ⟨n, e, h, _⟩ <;> (rw [ht] at h; simp at h)
theorem und9 : und Γ.P 9 = some .string := by kernel_rfl
theorem strs_of {P : Program} {w : World} {S : Addr → Prop} (ht : und P 9 = some .string) : ∀ (n : Nat) (ys : List D) (vs : List Value), RepFs P w S ys (List.replicate n 9) vs → ∃ ls : List (List UInt8), ls.length = n ∧ ys = ls.map D.str
  | 0, ys, vs, h => by
    cases ys with
    | nil => exact ⟨[], rfl, rfl⟩
    | cons y r => simp only [RepFs] at h; obtain ⟨t, ts, v1, v2, h1, _⟩ := h; simp at h1
  | n + 1, ys, vs, h => by
    cases ys with
    | nil => simp [RepFs, List.replicate_succ] at h
    | cons y r =>
      simp only [RepFs, List.replicate_succ] at h
      obtain ⟨t, ts, v1, v2, h1, _, h3, h4⟩ := h
      cases h1
      obtain ⟨l, rfl⟩ := has_str ht h3
      obtain ⟨ls, h5, rfl⟩ := strs_of ht n r v2 h4
      exact ⟨l :: ls, by simp [h5], rfl⟩
theorem lawD (mx : Int) (ys : List D) (h : HasL Γ.P ys [9]) (hb : bulkL ys ≤ 1048576) : Ret (Γm mx) 3 (argsOf Γ.P [9] ys) (.b true) := by
  obtain ⟨w, S, vs, h⟩ := h
  obtain ⟨ls, hl, rfl⟩ := strs_of und9 1 ys vs h
  match ls, hl, hb with
  | [l1], _, hb =>
    simp only [List.map_cons, List.map_nil, bulkL, bulkD] at hb
    exact law3 mx l1 (by omega)

/-! ### the claim -/
theorem ownK : ownKnob Tryd.prog.godebug = none := by kernel_rfl
theorem globs_ok {W : World} (h : laidMetH Tryd.prog Rows.labelNamesUptoRow.laid W) : GlobOK Γ W (InW W) := by
  have h : laidMet Tryd.prog Rows.labelNamesUptoRow.laid W := h
  intro g t x hg
  match g, hg with
  | 0, hg =>
    cases hg
    exact glob_of hP h (n := "unicode/utf8.first") (List.mem_cons_of_mem _ (List.mem_cons_self ..)) (by kernel_rfl) (by kernel_rfl) (by kernel_rfl) (by kernel_rfl)
  | 1, hg =>
    cases hg
    exact glob_of hP h (n := "unicode/utf8.acceptRanges") (List.mem_cons_self ..) (by kernel_rfl) (by kernel_rfl) (by kernel_rfl) (by kernel_rfl)
theorem globs_okM {W : World} {mx : Int} (h : laidMetH Tryd.prog Rows.labelNamesUptoRow.laid W) (hm : W.cell? ⟨2, 0, none⟩ = some (.int .i64 mx)) : GlobOK (Γm mx) W (InW W) := by
  refine (globs_ok h).more fun g t x hg => ?_
  match g, hg with
  | 2, hg =>
    cases hg
    refine ⟨[.int .i64 mx], fun j v hj => ?_, ?_⟩
    · match j, hj with
      | 0, hj => cases hj; exact ⟨hm, in_world hm⟩
      | j + 1, hj => exact absurd hj (by simp)
    · simp only [RepT]
      exact ⟨by kernel_rfl, trivial⟩
theorem contract (H : Type) (enc : TypeId × Value → H) (W : World) (base : Nat) (args : Array Value) (ds gs : List (DataW H)) (before : List MemPlace)
    (hval : ∀ (j : Nat) t v, Tryd.f3.params[j]? = some t → args[j]? = some v → Value.okWide Tryd.prog W .any base t v)
    (hW : DataW.Whole enc Tryd.prog Tryd.f3.params.toList Rows.labelNamesSpec.vars false W args.toList ds gs before) (hL : laidMetH Tryd.prog Rows.labelNamesUptoRow.laid W) (hsh : W.ShapedOpen Tryd.prog) (hk : Rows.uptoSmall H (ds ++ gs) = true) :
    Calls Tryd.prog 3 args W fun e W' => ∃ v, e = .returned v ∧ Rows.labelNamesSpec.post enc Tryd.prog Tryd.f3 false true false false W args v W' :=
  by
  obtain ⟨mx, hm⟩ := cell_of_shapedOpen_int (zero := #[.int .i64 0]) (t := 3) hsh (g := 2) (of_decide_eq_true (by kernel_rfl)) (by kernel_rfl) rfl (by kernel_rfl) (by kernel_rfl) Tryd.underlying3
  exact   contract_ok (Γ := (Γm mx)) hP (by kernel_rfl) (by kernel_rfl) (by kernel_rfl) (tb := 4) Tryd.func3 (by kernel_rfl) (by kernel_rfl) (by kernel_rfl) (by kernel_rfl) (by kernel_rfl) (s := Rows.labelNamesSpec) rfl
    (fun ds hd => by
      have hd : ds.length = 1 := hd
      match ds, hd with
      | [_], _ => rfl)
    (fun ys h _ hb => lawD mx ys h hb) W (globs_okM hL hm) base args ds gs before hval hW hk
def layCs (cs : Array Value) : Go.Obj → Go.Obj
  | .cells _ t frozen => .cells cs t frozen
  | o => o
def layAll (h : Array Go.Obj) : Array Go.Obj :=
  (h.modify 0 (layCs (Go.Pinned.utf8FirstZ.map fun (n : Nat) => Value.int .u8 (n : Int)).toArray)).modify 1 (layCs ([128, 191, 160, 191, 128, 159, 144, 191, 128, 143, 0, 0, 0, 0, 0, 0, 0, 0, 0, 0, 0, 0, 0, 0, 0, 0, 0, 0, 0, 0, 0, 0].map fun (n : Int) => Value.int .u8 n).toArray)
/-- a world for the witness: the two tables hold what is listed -/
noncomputable def laidWorld (os : Os) : World := { World.holding Tryd.prog os ⟨#[], #[], []⟩ with heap := layAll (World.holding Tryd.prog os ⟨#[], #[], []⟩).heap }
theorem laid_met (os : Os) : laidMet Tryd.prog Rows.labelNamesUptoRow.laid ((laidWorld os).forCall (fun _ _ => 0) ⟨#[], #[.string .empty], []⟩).memory :=
  laidMet_of_run' 8 (by kernel_rfl) (by kernel_rfl)
theorem reads (os : Os) {H : Type} (enc : TypeId × Value → H) : ∃ places, DataW.whole enc Tryd.prog ((laidWorld os).forCall (fun _ _ => 0) ⟨#[], #[.string .empty], []⟩).memory Tryd.f3.params.toList Rows.labelNamesSpec.vars false (#[.string .empty] : Array Value).toList 8 = some ([.lit (.string [])], [], places) :=
  ⟨[], by kernel_rfl⟩
theorem lifted (os : Os) (started : os.Started) (H : Type) (enc : TypeId × Value → H) (F : Stop.Interp) :
    ReturnsInHanded {} Tryd.checked os 3 .any ((Rows.OpenSpec.upto Rows.labelNamesSpec).preRow enc Tryd.prog Tryd.f3 Rows.labelNamesUptoRow.domain false Rows.labelNamesUptoRow.laid) (((Rows.OpenSpec.upto Rows.labelNamesSpec).at F).post enc Tryd.prog Tryd.f3 false true false false) := by
  obtain ⟨places, hx⟩ := reads os enc
  refine returnsInHanded_of_row (C := Tryd.checked) (s := Rows.OpenSpec.upto Rows.labelNamesSpec) ownK started (by kernel_rfl) Tryd.func3
    (witness_row_at (enc := enc) (C := Tryd.checked) false (laidWorld os) #[.string .empty] rfl (by kernel_rfl) (by kernel_rfl) (by kernel_rfl)
      (OpenSpec.preRow_of_cond 8 hx (by kernel_rfl) (fun k hk => by cases hk; kernel_rfl) (by kernel_rfl) (laid_met os))) ?_
  intro W base args ds gs before hval hW h1 h2 h3 hL h5 h6
  first
    | exact contract H enc W base args ds gs before hval hW hL h5 (h1 _ rfl)
    | exact contract H enc W base args ds gs before hval hW hL h5 (h2 _ rfl)
    | exact contract H enc W base args ds gs before hval hW hL h5 (h3 _ rfl)
theorem said : Rows.LabelNamesUptoSaid :=
  OpenClaim.holds_of_cond 3 Tryd.f3 rfl rfl rfl rfl rfl rfl rfl ⟨rfl, rfl, rfl, rfl, rfl⟩ rfl rfl rfl rfl rfl (by kernel_rfl) Tryd.func3 (by kernel_rfl)
    (of_decide_eq_true (by kernel_rfl)) (by unfold Func.isWrapper; first | (rw [if_pos (by decide +kernel)]; kernel_rfl) | (rw [if_neg (by decide +kernel)]; exact ⟨rfl, rfl⟩))
    (fun os started H enc _ F => by rw [OpenClaim.pre_eq_preRow]; exact lifted os started H enc F)
theorem plain (f : FuncId) (fn : Func) (hf : Tryd.pinned.checked.prog.funcNamed "chartulary/chartularylaw06.LabelNames" = some f) (hfn : Tryd.pinned.checked.prog.funcs[f]? = some fn) :
    false = Tryd.pinned.checked.prog.looks [] ∧ ∀ (j : Nat) t, fn.params[j]? = some t → Tryd.pinned.checked.prog.wantsStandIn t = false := by
  obtain rfl : f = 3 := Option.some.inj ((show Tryd.prog.funcNamed "chartulary/chartularylaw06.LabelNames" = some 3 by kernel_rfl).symm.trans hf) |>.symm
  obtain rfl : fn = Tryd.f3 := (Option.some.inj (Tryd.func3.symm.trans hfn)).symm
  refine ⟨by kernel_rfl, fun j t ht => ?_⟩
  rw [Tryd.params3] at ht
  obtain rfl : t = 9 := by simpa using Array.mem_of_getElem? ht
  exact (show Tryd.prog.wantsStandIn 9 = false by kernel_rfl)
/-- the card -/
theorem card : Rows.LabelNamesUptoCardSaid :=
  Claim7.holds_tied_plain_at .later [] _ _ _ _ said (fun _ h => by cases h) (by kernel_rfl) (fun _ h => by cases h) labelNamesUpto_row_tie rfl ⟨rfl, rfl⟩ (by kernel_rfl) rfl plain (by kernel_rfl)
#print axioms card
end Go.Proofs.YtdelibcanngipaaDoor
