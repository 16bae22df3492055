/- LabelNext, for every two texts, is true: chartularylaw06.LabelNext, where the arguments are of bulk at most 1048576 and the package variables that are listed hold what the program's text lays. -/
import Derived.Test.YtdelibcanngipaaDoorFrY
import Derived.Test.YtdelibcanngipaaDoorLbF
import Derived.Test.YtdelibcanngipaaDoorLbG
import Derived.Test.YtdelibcanngipaaDoorCards
import Derived.Test.YtdelibcanngipaaDoorTie
import Derived.Deep.DeepHandedRow
namespace Go.Proofs.YtdelibcanngipaaDoor
open Go Go.ChangeShapes Go.WideShapes Go.ChangeAt Go.RowKit
open V
set_option maxRecDepth 100000
set_option linter.unusedVariables false

theorem hn_ok : CallsOK Γ Hn := specs_ok (.cons (sp1_ok fun p h => next_ret ext_ok p (by simpa [shortB] using h)) (.cons (sp0_ok fun _ => awake_ret) (.cons (sp2_ok fun p q _ => begins_ret ext_ok p q) .nil)))
theorem law7 (s t : List UInt8) (hs : s.length ≤ 1125899906842624) : Ret Γ 7 [.s s, .s t] (.b true) :=
  (ret_goes hP hZ hn_ok (by kernel_rfl) ⟨0, law_next _ s t hs⟩).ret (by kernel_rfl)
theorem has_str {P : Program} {y : D} {t : TypeId} {w : World} {S : Addr → Prop} {vs : List Value} (ht : und P t = some .string) (h : RepT P w S y t vs) : ∃ l, y = .str l := by
  cases y <;> simp only [RepT] at h
  case str l => exact ⟨l, rfl⟩
  case int k n => rw [ht] at h; simp at h
  case bool b => rw [ht] at h; simp at h
  case slice c xs => obtain ⟨e, a, cap, h, _⟩ := h; rw [ht] at h; simp at h
  case agg fs =>
    rcases h with ⟨flds, h, _⟩ | ⟨n, e, h, _⟩ <;> (rw [ht] at h; simp at h)
theorem und9 : und Γ.P 9 = some .string := by kernel_rfl
theorem law7' (ys : List D) (h : HasL Γ.P ys [9, 9]) (hb : bulkL ys ≤ 1048576) : Ret Γ 7 (argsOf Γ.P [9, 9] ys) (.b true) := by
  obtain ⟨w, S, vs, h⟩ := h
  rcases ys with _ | ⟨a, _ | ⟨b, _ | ⟨c, r⟩⟩⟩ <;> simp only [RepFs] at h
  · simp at h
  · obtain ⟨t, ts, v1, v2, h1, _, _, h2, _⟩ := h; rw [h2] at h1; simp at h1
  · obtain ⟨t, ts, v1, v2, h1, _, h3, t', ts', v1', v2', h1', _, h3', _⟩ := h
    cases h1; cases h1'
    obtain ⟨l1, rfl⟩ := has_str und9 h3
    obtain ⟨l2, rfl⟩ := has_str und9 h3'
    simp only [bulkL, bulkD] at hb
    exact law7 l1 l2 (by omega)
  · obtain ⟨t, ts, v1, v2, h1, _, _, t', ts', v1', v2', h1', _, _, t'', ts'', _, _, h1'', _⟩ := h
    cases h1; cases h1'; simp at h1''

/-! ### the claim -/
theorem own7 : ownKnob Tryd.prog.godebug = none := by kernel_rfl
theorem globs_ok {W : World} (h : laidMetH Tryd.prog Rows.labelNextUptoRow.laid W) : GlobOK Γ W (InW W) := by
  have h : laidMet Tryd.prog Rows.labelNextUptoRow.laid W := h
  intro g t x hg
  match g, hg with
  | 0, hg =>
    cases hg
    exact glob_of hP h (n := "unicode/utf8.first") (List.mem_cons_of_mem _ (List.mem_cons_self ..)) (by kernel_rfl) (by kernel_rfl) (by kernel_rfl) (by kernel_rfl)
  | 1, hg =>
    cases hg
    exact glob_of hP h (n := "unicode/utf8.acceptRanges") (List.mem_cons_self ..) (by kernel_rfl) (by kernel_rfl) (by kernel_rfl) (by kernel_rfl)
theorem contract7 (H : Type) (enc : TypeId × Value → H) (W : World) (base : Nat) (args : Array Value) (ds gs : List (DataW H)) (before : List MemPlace)
    (hval : ∀ (j : Nat) t v, Tryd.f7.params[j]? = some t → args[j]? = some v → Value.okWide Tryd.prog W .any base t v)
    (hW : DataW.Whole enc Tryd.prog Tryd.f7.params.toList Rows.labelNextSpec.vars false W args.toList ds gs before) (hL : laidMetH Tryd.prog Rows.labelNextUptoRow.laid W) (hk : Rows.uptoSmall H (ds ++ gs) = true) :
    Calls Tryd.prog 7 args W fun e W' => ∃ v, e = .returned v ∧ Rows.labelNextSpec.post enc Tryd.prog Tryd.f7 false true false false W args v W' :=
  contract_ok (Γ := Γ) hP (by kernel_rfl) (by kernel_rfl) (by kernel_rfl) (tb := 4) Tryd.func7 (by kernel_rfl) (by kernel_rfl) (by kernel_rfl) (by kernel_rfl) (by kernel_rfl) (s := Rows.labelNextSpec) rfl
    (fun ds hd => by
      rcases ds with _ | ⟨a, _ | ⟨b, _ | ⟨c, r⟩⟩⟩
      · exact absurd hd (by simp [Tryd.params7])
      · exact absurd hd (by simp [Tryd.params7])
      · rfl
      · exact absurd hd (by simp [Tryd.params7]))
    (fun ys h _ hb => law7' ys h hb) W (globs_ok hL) base args ds gs before hval hW hk
end Go.Proofs.YtdelibcanngipaaDoor
