/- GlobStars, for every input, is true: chartularylaw07.GlobStars, where the arguments are of bulk at most 1048576. -/
import Derived.Test.YtbdekjlnnbjicaaBm
import Derived.Deep.DeepHandedRow
import Derived.Deep.DeepWitnessRowRef
import Derived.Lay
import Derived.WalkKit
import Derived.ProofKit
import Derived.OpenShut
import Derived.Shelf.Vars
namespace Go.Proofs.Ytbdekjlnnbjicaa
open Go Go.ChangeShapes Go.WideShapes Go.ChangeAt Go.RowKit
open V
set_option maxRecDepth 100000
set_option linter.unusedVariables false
set_option linter.unusedSimpArgs false

theorem has_str {P : Program} {y : D} {t : TypeId} {w : World} {S : Addr → Prop} {vs : List Value} (ht : und P t = some .string) (h : RepT P w S y t vs) : ∃ l, y = .str l := by
  cases y <;> simp only [RepT] at h
  case str l => exact ⟨l, rfl⟩
  case int k n => rw [ht] at h; simp at h
  case bool b => rw [ht] at h; simp at h
  case slice c xs => obtain ⟨e, a, cap, h, _⟩ := h; rw [ht] at h; simp at h
  case agg fs =>
    rcases h with ⟨flds, h, _⟩ | ⟨n, e, h, _⟩ <;> (rw [ht] at h; simp at h)
theorem has_int {P : Program} {y : D} {t : TypeId} {k : IntKind} {w : World} {S : Addr → Prop} {vs : List Value} (ht : und P t = some (.int k)) (h : RepT P w S y t vs) (hf : fineD y) : ∃ n, y = .int k n ∧ k.min ≤ n ∧ n ≤ k.max := by
  cases y <;> simp only [RepT] at h
  case int k' n =>
    rw [ht] at h
    obtain ⟨h, _⟩ := h
    cases h
    simp only [fineD] at hf
    exact ⟨n, rfl, hf.1, hf.2⟩
  case str l => rw [ht] at h; simp at h
  case bool b => rw [ht] at h; simp at h
  case slice c xs => obtain ⟨e, a, cap, h, _⟩ := h; rw [ht] at h; simp at h
  case agg fs =>
    rcases h with ⟨flds, h, _⟩ | ⟨n, e, h, _⟩ <;> (rw [ht] at h; simp at h)
theorem has_bool {P : Program} {y : D} {t : TypeId} {w : World} {S : Addr → Prop} {vs : List Value} (ht : und P t = some .bool) (h : RepT P w S y t vs) : ∃ b, y = .bool b := by
  cases y <;> simp only [RepT] at h
  case bool b => exact ⟨b, rfl⟩
  case int k n => rw [ht] at h; simp at h
  case str l => rw [ht] at h; simp at h
  case slice c xs => obtain ⟨e, a, cap, h, _⟩ := h; rw [ht] at h; simp at h
  case agg fs =>
    rcases h with ⟨flds, h, _⟩ | ⟨n, e, h, _⟩ <;> (rw [ht] at h; simp at h)
theorem fs_cons {P : Program} {w : World} {S : Addr → Prop} {ys : List D} {t : TypeId} {ts : List TypeId} {vs : List Value} (h : RepFs P w S ys (t :: ts) vs) : ∃ y r v1 v2, ys = y :: r ∧ RepT P w S y t v1 ∧ RepFs P w S r ts v2 := by
  cases ys with
  | nil => simp [RepFs] at h
  | cons y r =>
    simp only [RepFs] at h
    obtain ⟨t', ts', v1, v2, h1, _, h3, h4⟩ := h
    cases h1
    exact ⟨y, r, v1, v2, rfl, h3, h4⟩
theorem fs_nil {P : Program} {w : World} {S : Addr → Prop} {ys : List D} {vs : List Value} (h : RepFs P w S ys [] vs) : ys = [] := by
  cases ys with
  | nil => rfl
  | cons y r => simp only [RepFs] at h; obtain ⟨t', ts', v1, v2, h1, _⟩ := h; cases h1
theorem lawD (ys : List D) (h : HasL Γ.P ys [9, 9, 9]) (hf : fineL ys) (hb : bulkL ys ≤ 1048576) : Ret Γ 7 (argsOf Γ.P [9, 9, 9] ys) (.b true) := by
  obtain ⟨w, S, vs, h⟩ := h
  obtain ⟨y1, r1, _, _, rfl, h1, q1⟩ := fs_cons h
  simp only [fineL] at hf
  obtain ⟨g1, hf⟩ := hf
  obtain ⟨x1, rfl⟩ := has_str (by kernel_rfl) h1
  obtain ⟨y2, r2, _, _, rfl, h2, q2⟩ := fs_cons q1
  simp only [fineL] at hf
  obtain ⟨g2, hf⟩ := hf
  obtain ⟨x2, rfl⟩ := has_str (by kernel_rfl) h2
  obtain ⟨y3, r3, _, _, rfl, h3, q3⟩ := fs_cons q2
  simp only [fineL] at hf
  obtain ⟨g3, hf⟩ := hf
  obtain ⟨x3, rfl⟩ := has_str (by kernel_rfl) h3
  obtain rfl := fs_nil q3
  simp only [bulkL, bulkD] at hb
  have b1 : x1.length ≤ 1048576 := by omega
  have b2 : x2.length ≤ 1048576 := by omega
  have b3 : x3.length ≤ 1048576 := by omega
  exact ((law7 x1 x2 x3 (by omega) (by omega) (by omega)).ret (by kernel_rfl))

/-! ### the claim -/
theorem ownK : ownKnob Try.prog.godebug = none := by kernel_rfl
theorem globs_ok {W : World} (h : laidMetH Try.prog Rows.globStarsUptoRow.laid W) : GlobOK Γ W (InW W) := by
  have h : laidMet Try.prog Rows.globStarsUptoRow.laid W := h
  refine ⟨?_, ?_⟩
  rotate_left
  · intro g hg
    cases hg
  intro g t x hg
  cases hg
theorem contract (H : Type) (enc : TypeId × Value → H) (W : World) (base : Nat) (args : Array Value) (ds gs : List (DataW H)) (before : List MemPlace)
    (hval : ∀ (j : Nat) t v, Try.f7.params[j]? = some t → args[j]? = some v → Value.okWide Try.prog W .any base t v)
    (hW : DataW.Whole enc Try.prog Try.f7.params.toList Rows.globStarsSpec.vars false W args.toList ds gs before) (hL : laidMetH Try.prog Rows.globStarsUptoRow.laid W) (hsh : W.ShapedOpen Try.prog) (hk : Rows.uptoSmall H (ds ++ gs) = true) :
    Calls Try.prog 7 args W fun e W' => ∃ v, e = .returned v ∧ Rows.globStarsSpec.post enc Try.prog Try.f7 false true false false W args v W' := by
  exact contract_ok (Γ := Γ) hP (by kernel_rfl) (by kernel_rfl) (by kernel_rfl) (tb := 4) Try.func7 (by kernel_rfl) (by kernel_rfl) (by kernel_rfl) (by kernel_rfl) (by kernel_rfl) (s := Rows.globStarsSpec) rfl
    (fun ds hd => by
      have hd : ds.length = 3 := hd
      match ds, hd with
      | [_, _, _], _ => rfl)
    (fun ys h hf hb => lawD ys h hf hb) W (globs_ok hL) base args ds gs before hval hW hk
theorem laid_met (os : Os) : laidMet Try.prog Rows.globStarsUptoRow.laid ((World.laidAll Try.prog os Rows.globStarsUptoRow.laid).forCall (fun _ _ => 0) ⟨#[], #[.string .empty, .string .empty, .string .empty], []⟩).memory :=
  laidMet_laidAll #[.string .empty, .string .empty, .string .empty] (by kernel_rfl) (by kernel_rfl)
theorem reads (os : Os) {H : Type} (enc : TypeId × Value → H) : ∃ places, DataW.whole enc Try.prog ((World.laidAll Try.prog os Rows.globStarsUptoRow.laid).forCall (fun _ _ => 0) ⟨#[], #[.string .empty, .string .empty, .string .empty], []⟩).memory Try.f7.params.toList Rows.globStarsSpec.vars false (#[.string .empty, .string .empty, .string .empty] : Array Value).toList 8 = some ([.lit (.string []), .lit (.string []), .lit (.string [])], [], places) :=
  ⟨[], by kernel_rfl⟩
theorem lifted (os : Os) (started : os.Started) (H : Type) (enc : TypeId × Value → H) (F : Stop.Interp) :
    ReturnsInHanded {} Try.checked os 7 .any ((Rows.OpenSpec.upto Rows.globStarsSpec).preRow enc Try.prog Try.f7 Rows.globStarsUptoRow.domain false Rows.globStarsUptoRow.laid) (((Rows.OpenSpec.upto Rows.globStarsSpec).at F).post enc Try.prog Try.f7 false true false false) := by
  obtain ⟨places, hx⟩ := reads os enc
  refine returnsInHanded_of_row (C := Try.checked) (s := Rows.OpenSpec.upto Rows.globStarsSpec) ownK started (by kernel_rfl) Try.func7
    (witness_row_atRef (enc := enc) (C := Try.checked) false (World.laidAll Try.prog os Rows.globStarsUptoRow.laid) #[.string .empty, .string .empty, .string .empty] (World.laidAll_os _ _ _) (by kernel_rfl) (by kernel_rfl) (by kernel_rfl)
      (OpenSpec.preRow_of_cond 8 hx (by kernel_rfl) (fun k hk => by cases hk; kernel_rfl) (by kernel_rfl) (laid_met os))) ?_
  intro W base args ds gs before hval hW h1 h2 h3 hL h5 h6
  first
    | exact contract H enc W base args ds gs before hval hW hL h5 (h1 _ rfl)
    | exact contract H enc W base args ds gs before hval hW hL h5 (h2 _ rfl)
    | exact contract H enc W base args ds gs before hval hW hL h5 (h3 _ rfl)
theorem said : Rows.GlobStarsUptoSaid :=
  OpenClaim.holds_of_cond 7 Try.f7 rfl rfl rfl rfl rfl rfl rfl ⟨rfl, rfl, rfl, rfl, rfl⟩ rfl rfl rfl rfl rfl (by kernel_rfl) Try.func7 (by kernel_rfl)
    (of_decide_eq_true (by kernel_rfl)) (by unfold Func.isWrapper; first | (rw [if_pos (by decide +kernel)]; kernel_rfl) | (rw [if_neg (by decide +kernel)]; exact ⟨rfl, rfl⟩))
    (fun os started H enc _ F => by rw [OpenClaim.pre_eq_preRow]; exact lifted os started H enc F)
#print axioms said
end Go.Proofs.Ytbdekjlnnbjicaa
