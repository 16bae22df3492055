/- ProofOthers, for every input, is true: chartularylaw28.ProofOthers, where the arguments are of bulk at most 1048576 and the package variables that are listed hold what the program's text lays (the card ties them). -/
import Derived.Test.YtafmogdnhpnbiaaDoorBl
import Derived.Test.YtafmogdnhpnbiaaDoorCards
import Derived.Test.YtafmogdnhpnbiaaDoorTie
import Derived.Deep.DeepHandedRow
import Derived.Deep.DeepWitnessRowRef
import Derived.Lay
import Derived.WalkKit
import Derived.ProofKit
import Derived.OpenShut
import Derived.Shelf.Vars
namespace Go.Proofs.YtafmogdnhpnbiaaDoor
open Go Go.ChangeShapes Go.WideShapes Go.ChangeAt Go.RowKit
open V
set_option maxRecDepth 100000
set_option linter.unusedVariables false
set_option linter.unusedSimpArgs false

theorem has_str {P : Program} {y : D} {t : TypeId} {w : World} {S : Addr → Prop} {vs : List Value} (ht : und P t = some .string) (h : RepT P w S y t vs) : ∃ l, y = .str l := by
  cases y <;> simp only [RepT] at h
  case str l => exact ⟨l, rfl⟩
  case int k n => rw [ht] at h; simp at h
  case bool b => rw [ht] at h; simp at h
  case slice c xs => obtain ⟨e, a, cap, h, _⟩ := h; rw [ht] at h; simp at h
  case agg fs =>
    rcases h with ⟨flds, h, _⟩ | ⟨n, e, h, _⟩ <;> (rw [ht] at h; simp at h)
theorem has_int {P : Program} {y : D} {t : TypeId} {k : IntKind} {w : World} {S : Addr → Prop} {vs : List Value} (ht : und P t = some (.int k)) (h : RepT P w S y t vs) (hf : fineD y) : ∃ n, y = .int k n ∧ k.min ≤ n ∧ n ≤ k.max := by
  cases y <;> simp only [RepT] at h
  case int k' n =>
    rw [ht] at h
    obtain ⟨h, _⟩ := h
    cases h
    simp only [fineD] at hf
    exact ⟨n, rfl, hf.1, hf.2⟩
  case str l => rw [ht] at h; simp at h
  case bool b => rw [ht] at h; simp at h
  case slice c xs => obtain ⟨e, a, cap, h, _⟩ := h; rw [ht] at h; simp at h
  case agg fs =>
    rcases h with ⟨flds, h, _⟩ | ⟨n, e, h, _⟩ <;> (rw [ht] at h; simp at h)
theorem has_bool {P : Program} {y : D} {t : TypeId} {w : World} {S : Addr → Prop} {vs : List Value} (ht : und P t = some .bool) (h : RepT P w S y t vs) : ∃ b, y = .bool b := by
  cases y <;> simp only [RepT] at h
  case bool b => exact ⟨b, rfl⟩
  case int k n => rw [ht] at h; simp at h
  case str l => rw [ht] at h; simp at h
  case slice c xs => obtain ⟨e, a, cap, h, _⟩ := h; rw [ht] at h; simp at h
  case agg fs =>
    rcases h with ⟨flds, h, _⟩ | ⟨n, e, h, _⟩ <;> (rw [ht] at h; simp at h)
theorem fs_cons {P : Program} {w : World} {S : Addr → Prop} {ys : List D} {t : TypeId} {ts : List TypeId} {vs : List Value} (h : RepFs P w S ys (t :: ts) vs) : ∃ y r v1 v2, ys = y :: r ∧ RepT P w S y t v1 ∧ RepFs P w S r ts v2 := by
  cases ys with
  | nil => simp [RepFs] at h
  | cons y r =>
    simp only [RepFs] at h
    obtain ⟨t', ts', v1, v2, h1, _, h3, h4⟩ := h
    cases h1
    exact ⟨y, r, v1, v2, rfl, h3, h4⟩
theorem fs_nil {P : Program} {w : World} {S : Addr → Prop} {ys : List D} {vs : List Value} (h : RepFs P w S ys [] vs) : ys = [] := by
  cases ys with
  | nil => rfl
  | cons y r => simp only [RepFs] at h; obtain ⟨t', ts', v1, v2, h1, _⟩ := h; cases h1
theorem has_slice {P : Program} {y : D} {t e : TypeId} {w : World} {S : Addr → Prop} {vs : List Value} (ht : und P t = some (.slice e)) (h : RepT P w S y t vs) (hf : fineD y) : ∃ c l, y = .slice c l ∧ fineL l ∧ (l = [] ∨ ∃ b o, RepRow P w S l e b o) := by
  cases y <;> simp only [RepT] at h
  case slice c xs =>
    obtain ⟨e', a, cap, h1, _, _, h2⟩ := h
    rw [ht] at h1
    cases h1
    simp only [fineD] at hf
    refine ⟨c, xs, rfl, hf.2.2, ?_⟩
    rcases h2 with h2 | ⟨b, o, _, h2⟩
    · exact .inl h2
    · exact .inr ⟨b, o, h2⟩
  case int k n => rw [ht] at h; simp at h
  case str l => rw [ht] at h; simp at h
  case bool b => rw [ht] at h; simp at h
  case agg fs =>
    rcases h with ⟨flds, h, _⟩ | ⟨n, e, h, _⟩ <;> (rw [ht] at h; simp at h)
theorem has_struct {P : Program} {y : D} {t : TypeId} {ts : List TypeId} {w : World} {S : Addr → Prop} {vs : List Value} (ht : (match und P t with | some (.struct fl) => some (fl.toList.map (·.type)) | _ => none) = some ts) (h : RepT P w S y t vs) (hf : fineD y) : ∃ fs, y = .agg fs ∧ fineL fs ∧ RepFs P w S fs ts vs := by
  cases y <;> simp only [RepT] at h
  case agg fs =>
    simp only [fineD] at hf
    rcases h with ⟨flds, h, h2⟩ | ⟨n, e, h, _⟩
    · rw [h] at ht
      cases ht
      exact ⟨fs, rfl, hf, h2⟩
    · rw [h] at ht; simp at ht
  case int k n => rw [h.1] at ht; simp at ht
  case str l => rw [h.1] at ht; simp at ht
  case bool b => rw [h.1] at ht; simp at ht
  case slice c xs => obtain ⟨e, a, cap, h, _⟩ := h; rw [h] at ht; simp at ht
theorem row_all {P : Program} {w : World} {S : Addr → Prop} {e : TypeId} {q : D → Bool} (hq : ∀ y vs, RepT P w S y e vs → fineD y → q y = true) : ∀ (l : List D) (b o : Nat), fineL l → RepRow P w S l e b o → l.all q = true
  | [], _, _, _, _ => rfl
  | y :: r, b, o, hf, h => by
    simp only [RepRow] at h
    simp only [fineL] at hf
    obtain ⟨vs, _, h1, h2⟩ := h
    rw [List.all_cons, hq y vs h1 hf.1, row_all hq r _ _ hf.2 h2]; rfl
theorem row_all' {P : Program} {w : World} {S : Addr → Prop} {e : TypeId} {q : D → Bool} {l : List D} (hq : ∀ y vs, RepT P w S y e vs → fineD y → q y = true) (hf : fineL l) (h : l = [] ∨ ∃ b o, RepRow P w S l e b o) : l.all q = true := by
  rcases h with rfl | ⟨b, o, h⟩
  · rfl
  · exact row_all hq l b o hf h
theorem bulkL_len : ∀ l : List D, l.length ≤ bulkL l
  | [] => Nat.le_refl _
  | y :: r => by
    have := bulkL_len r
    have h1 : 1 ≤ bulkD y := by cases y <;> simp only [bulkD] <;> omega
    simp only [bulkL, List.length_cons]; omega
theorem isB8_of {y : D} {w : World} {S : Addr → Prop} {vs : List Value} (h : RepT Γ.P w S y 5 vs) (hf : fineD y) : isB8 y = true := by
  obtain ⟨n, rfl, a, b⟩ := has_int (k := .u8) (by kernel_rfl) h hf
  have a : 0 ≤ n := a
  have b : n ≤ 255 := b
  show (decide (0 ≤ n) && decide (n < 256)) = true
  rw [decide_eq_true a, decide_eq_true (by omega)]; rfl
theorem isBs_of {y : D} {w : World} {S : Addr → Prop} {vs : List Value} (h : RepT Γ.P w S y 39 vs) (hf : fineD y) : isBs y = true := by
  obtain ⟨c, l, rfl, gl, hl⟩ := has_slice (e := 5) (by kernel_rfl) h hf
  exact row_all' (e := 5) (fun y vs h hf => isB8_of h hf) gl hl
theorem bs_bulk : ∀ {l : List D}, l.all isBs = true → (catB l).length + l.length ≤ bulkL l
  | [], _ => Nat.le_refl _
  | d :: r, h => by
    have h : isBs d = true ∧ r.all isBs = true := by simpa using h
    obtain ⟨c, x, rfl, hx⟩ := bs_ex h.1
    have h1 := bs_bulk h.2
    have h2 := bulkL_len x
    have hc : catB (D.slice c x :: r) = unB x ++ catB r := rfl
    rw [hc, List.length_append, unB_len, List.length_cons]
    simp only [bulkL, bulkD]
    omega
theorem cu_bulk {l : List D} (h : l.all isBs = true) (hb : bulkL l ≤ 1048576) : cuC l = true := by
  have := bs_bulk h
  unfold cuC
  rw [h, decide_eq_true (by omega)]; rfl
theorem lo8 {n : Int} (h : IntKind.u8.min ≤ n) : 0 ≤ n := h
theorem hi8 {n : Int} (h : n ≤ IntKind.u8.max) : n < 256 := by
  have h : n ≤ 255 := h
  omega
theorem arr_u8 : ∀ (n : Nat) (fs : List D) (vs : List Value) {w : World} {S : Addr → Prop}, RepFs Γ.P w S fs (List.replicate n 5) vs → fineL fs → fs.length = n ∧ isBy fs = true
  | 0, fs, vs, _, _, h, hf => by
    obtain rfl := fs_nil h
    exact ⟨rfl, rfl⟩
  | n + 1, fs, vs, _, _, h, hf => by
    rw [List.replicate_succ] at h
    obtain ⟨y, r, _, _, rfl, h1, h2⟩ := fs_cons h
    simp only [fineL] at hf
    have hy := isB8_of h1 hf.1
    obtain ⟨k1, k2⟩ := arr_u8 n r _ h2 hf.2
    refine ⟨by rw [List.length_cons, k1], ?_⟩
    show (isB8 y && isBy r) = true
    rw [hy, k2]; rfl
theorem isD1_of {y : D} {w : World} {S : Addr → Prop} {vs : List Value} (h : RepT Γ.P w S y 36 vs) (hf : fineD y) : isD1 y = true := by
  have ht : und Γ.P 36 = some (.array 32 5) := by kernel_rfl
  cases y <;> simp only [RepT] at h
  case agg fs =>
    rcases h with ⟨flds, h, _⟩ | ⟨n, e, h, _, h2⟩
    · rw [ht] at h; simp at h
    · rw [ht] at h
      cases h
      simp only [fineD] at hf
      obtain ⟨k1, k2⟩ := arr_u8 32 fs _ h2 hf
      show isDg fs = true
      unfold isDg
      rw [k1, k2]; rfl
  case str l => rw [ht] at h; simp at h
  case int k n => rw [ht] at h; simp at h
  case bool b => rw [ht] at h; simp at h
  case slice c xs => obtain ⟨e, a, cap, h, _⟩ := h; rw [ht] at h; simp at h
theorem isD1_eq' {d : D} (h : isD1 d = true) : ∃ ys, d = .agg ys := by
  obtain ⟨ys, e, _⟩ := isD1_eq h
  exact ⟨ys, e⟩
theorem lawD (ys : List D) (h : HasL Γ.P ys [22, 5, 5, 5, 36]) (hf : fineL ys) (hb : bulkL ys ≤ 1048576) : Ret Γ 5 (argsOf Γ.P [22, 5, 5, 5, 36] ys) (.b true) := by
  obtain ⟨w, S, vs, h⟩ := h
  obtain ⟨y1, r1, _, _, rfl, h1, q1⟩ := fs_cons h
  simp only [fineL] at hf
  obtain ⟨g1, hf⟩ := hf
  obtain ⟨c1, x1, rfl, g1, k1⟩ := has_slice (by kernel_rfl) h1 g1
  have a1 : x1.all isBs = true := row_all' (fun y vs h hf => isBs_of h hf) g1 k1
  have l1 := bulkL_len x1
  obtain ⟨y2, r2, _, _, rfl, h2, q2⟩ := fs_cons q1
  simp only [fineL] at hf
  obtain ⟨g2, hf⟩ := hf
  obtain ⟨x2, rfl, f2⟩ := has_int (k := .u8) (by kernel_rfl) h2 g2
  obtain ⟨y3, r3, _, _, rfl, h3, q3⟩ := fs_cons q2
  simp only [fineL] at hf
  obtain ⟨g3, hf⟩ := hf
  obtain ⟨x3, rfl, f3⟩ := has_int (k := .u8) (by kernel_rfl) h3 g3
  obtain ⟨y4, r4, _, _, rfl, h4, q4⟩ := fs_cons q3
  simp only [fineL] at hf
  obtain ⟨g4, hf⟩ := hf
  obtain ⟨x4, rfl, f4⟩ := has_int (k := .u8) (by kernel_rfl) h4 g4
  obtain ⟨y5, r5, _, _, rfl, h5, q5⟩ := fs_cons q4
  simp only [fineL] at hf
  obtain ⟨g5, hf⟩ := hf
  have a5 : isD1 y5 = true := isD1_of h5 g5
  obtain ⟨dd5, rfl⟩ := isD1_eq' a5
  obtain rfl := fs_nil q5
  have e1 : elemU Γ.P 22 = 39 := by kernel_rfl
  have e5 : underId Γ.P 36 = 35 := by kernel_rfl
  simp only [argsOf, fromD, e1, e5]
  simp only [bulkL, bulkD] at hb
  have b1 : x1.length ≤ 1048576 := by omega
  exact ((law5 (cu_bulk a1 (by omega)) (lo8 f2.1) (hi8 f2.2) (lo8 f3.1) (hi8 f3.2) a5).anyc.ret (by kernel_rfl))

/-! ### the claim -/
theorem ownK : ownKnob Tryd.prog.godebug = none := by kernel_rfl
theorem globs_ok {W : World} (h : laidMetH Tryd.prog Rows.proofOthersUptoRow.laid W) : GlobOK Γ W (InW W) := by
  have h : laidMet Tryd.prog Rows.proofOthersUptoRow.laid W := h
  refine ⟨?_, ?_⟩
  rotate_left
  · intro g hg
    cases hg
  intro g t x hg
  match g, hg with
  | 0, hg =>
    cases hg
    exact glob_of hP h (n := "chartulary/sha.factors") (List.mem_cons_self ..) (by kernel_rfl) (by kernel_rfl) (by kernel_rfl) (by kernel_rfl)
theorem contract (H : Type) (enc : TypeId × Value → H) (W : World) (base : Nat) (args : Array Value) (ds gs : List (DataW H)) (before : List MemPlace)
    (hval : ∀ (j : Nat) t v, Tryd.f5.params[j]? = some t → args[j]? = some v → Value.okWide Tryd.prog W .any base t v)
    (hW : DataW.Whole enc Tryd.prog Tryd.f5.params.toList Rows.proofOthersSpec.vars false W args.toList ds gs before) (hL : laidMetH Tryd.prog Rows.proofOthersUptoRow.laid W) (hsh : W.ShapedOpen Tryd.prog) (hk : Rows.uptoSmall H (ds ++ gs) = true) :
    Calls Tryd.prog 5 args W fun e W' => ∃ v, e = .returned v ∧ Rows.proofOthersSpec.post enc Tryd.prog Tryd.f5 false true false false W args v W' := by
  exact contract_ok (Γ := Γ) hP (by kernel_rfl) (by kernel_rfl) (by kernel_rfl) (tb := 4) Tryd.func5 (by kernel_rfl) (by kernel_rfl) (by kernel_rfl) (by kernel_rfl) (by kernel_rfl) (s := Rows.proofOthersSpec) rfl
    (fun ds hd => by
      have hd : ds.length = 5 := hd
      match ds, hd with
      | [_, _, _, _, _], _ => rfl)
    (fun ys h hf hb => lawD ys h hf hb) W (globs_ok hL) base args ds gs before hval hW hk
theorem laid_met (os : Os) : laidMet Tryd.prog Rows.proofOthersUptoRow.laid ((World.laidAll Tryd.prog os Rows.proofOthersUptoRow.laid).forCall (fun _ _ => 0) ⟨#[], #[.slice none 0 0, .int .u8 0, .int .u8 0, .int .u8 0, .agg #[.int .u8 0, .int .u8 0, .int .u8 0, .int .u8 0, .int .u8 0, .int .u8 0, .int .u8 0, .int .u8 0, .int .u8 0, .int .u8 0, .int .u8 0, .int .u8 0, .int .u8 0, .int .u8 0, .int .u8 0, .int .u8 0, .int .u8 0, .int .u8 0, .int .u8 0, .int .u8 0, .int .u8 0, .int .u8 0, .int .u8 0, .int .u8 0, .int .u8 0, .int .u8 0, .int .u8 0, .int .u8 0, .int .u8 0, .int .u8 0, .int .u8 0, .int .u8 0]], []⟩).memory :=
  laidMet_laidAll #[.slice none 0 0, .int .u8 0, .int .u8 0, .int .u8 0, .agg #[.int .u8 0, .int .u8 0, .int .u8 0, .int .u8 0, .int .u8 0, .int .u8 0, .int .u8 0, .int .u8 0, .int .u8 0, .int .u8 0, .int .u8 0, .int .u8 0, .int .u8 0, .int .u8 0, .int .u8 0, .int .u8 0, .int .u8 0, .int .u8 0, .int .u8 0, .int .u8 0, .int .u8 0, .int .u8 0, .int .u8 0, .int .u8 0, .int .u8 0, .int .u8 0, .int .u8 0, .int .u8 0, .int .u8 0, .int .u8 0, .int .u8 0, .int .u8 0]] (by kernel_rfl) (by kernel_rfl)
theorem reads (os : Os) {H : Type} (enc : TypeId × Value → H) : ∃ places, DataW.whole enc Tryd.prog ((World.laidAll Tryd.prog os Rows.proofOthersUptoRow.laid).forCall (fun _ _ => 0) ⟨#[], #[.slice none 0 0, .int .u8 0, .int .u8 0, .int .u8 0, .agg #[.int .u8 0, .int .u8 0, .int .u8 0, .int .u8 0, .int .u8 0, .int .u8 0, .int .u8 0, .int .u8 0, .int .u8 0, .int .u8 0, .int .u8 0, .int .u8 0, .int .u8 0, .int .u8 0, .int .u8 0, .int .u8 0, .int .u8 0, .int .u8 0, .int .u8 0, .int .u8 0, .int .u8 0, .int .u8 0, .int .u8 0, .int .u8 0, .int .u8 0, .int .u8 0, .int .u8 0, .int .u8 0, .int .u8 0, .int .u8 0, .int .u8 0, .int .u8 0]], []⟩).memory Tryd.f5.params.toList Rows.proofOthersSpec.vars false (#[.slice none 0 0, .int .u8 0, .int .u8 0, .int .u8 0, .agg #[.int .u8 0, .int .u8 0, .int .u8 0, .int .u8 0, .int .u8 0, .int .u8 0, .int .u8 0, .int .u8 0, .int .u8 0, .int .u8 0, .int .u8 0, .int .u8 0, .int .u8 0, .int .u8 0, .int .u8 0, .int .u8 0, .int .u8 0, .int .u8 0, .int .u8 0, .int .u8 0, .int .u8 0, .int .u8 0, .int .u8 0, .int .u8 0, .int .u8 0, .int .u8 0, .int .u8 0, .int .u8 0, .int .u8 0, .int .u8 0, .int .u8 0, .int .u8 0]] : Array Value).toList 8 = some ([.nil, .lit (.int .u8 0), .lit (.int .u8 0), .lit (.int .u8 0), .agg [.lit (.int .u8 0), .lit (.int .u8 0), .lit (.int .u8 0), .lit (.int .u8 0), .lit (.int .u8 0), .lit (.int .u8 0), .lit (.int .u8 0), .lit (.int .u8 0), .lit (.int .u8 0), .lit (.int .u8 0), .lit (.int .u8 0), .lit (.int .u8 0), .lit (.int .u8 0), .lit (.int .u8 0), .lit (.int .u8 0), .lit (.int .u8 0), .lit (.int .u8 0), .lit (.int .u8 0), .lit (.int .u8 0), .lit (.int .u8 0), .lit (.int .u8 0), .lit (.int .u8 0), .lit (.int .u8 0), .lit (.int .u8 0), .lit (.int .u8 0), .lit (.int .u8 0), .lit (.int .u8 0), .lit (.int .u8 0), .lit (.int .u8 0), .lit (.int .u8 0), .lit (.int .u8 0), .lit (.int .u8 0)]], [], places) :=
  ⟨[], by kernel_rfl⟩
theorem lifted (os : Os) (started : os.Started) (H : Type) (enc : TypeId × Value → H) (F : Stop.Interp) :
    ReturnsInHanded {} Tryd.checked os 5 .any ((Rows.OpenSpec.upto Rows.proofOthersSpec).preRow enc Tryd.prog Tryd.f5 Rows.proofOthersUptoRow.domain false Rows.proofOthersUptoRow.laid) (((Rows.OpenSpec.upto Rows.proofOthersSpec).at F).post enc Tryd.prog Tryd.f5 false true false false) := by
  obtain ⟨places, hx⟩ := reads os enc
  refine returnsInHanded_of_row (C := Tryd.checked) (s := Rows.OpenSpec.upto Rows.proofOthersSpec) ownK started (by kernel_rfl) Tryd.func5
    (witness_row_atRef (enc := enc) (C := Tryd.checked) false (World.laidAll Tryd.prog os Rows.proofOthersUptoRow.laid) #[.slice none 0 0, .int .u8 0, .int .u8 0, .int .u8 0, .agg #[.int .u8 0, .int .u8 0, .int .u8 0, .int .u8 0, .int .u8 0, .int .u8 0, .int .u8 0, .int .u8 0, .int .u8 0, .int .u8 0, .int .u8 0, .int .u8 0, .int .u8 0, .int .u8 0, .int .u8 0, .int .u8 0, .int .u8 0, .int .u8 0, .int .u8 0, .int .u8 0, .int .u8 0, .int .u8 0, .int .u8 0, .int .u8 0, .int .u8 0, .int .u8 0, .int .u8 0, .int .u8 0, .int .u8 0, .int .u8 0, .int .u8 0, .int .u8 0]] (World.laidAll_os _ _ _) (by kernel_rfl) (by kernel_rfl) (by kernel_rfl)
      (OpenSpec.preRow_of_cond 8 hx (by kernel_rfl) (fun k hk => by cases hk; kernel_rfl) (by kernel_rfl) (laid_met os))) ?_
  intro W base args ds gs before hval hW h1 h2 h3 hL h5 h6
  first
    | exact contract H enc W base args ds gs before hval hW hL h5 (h1 _ rfl)
    | exact contract H enc W base args ds gs before hval hW hL h5 (h2 _ rfl)
    | exact contract H enc W base args ds gs before hval hW hL h5 (h3 _ rfl)
theorem said : Rows.ProofOthersUptoSaid :=
  OpenClaim.holds_of_cond 5 Tryd.f5 rfl rfl rfl rfl rfl rfl rfl ⟨rfl, rfl, rfl, rfl, rfl⟩ rfl rfl rfl rfl rfl (by kernel_rfl) Tryd.func5 (by kernel_rfl)
    (of_decide_eq_true (by kernel_rfl)) (by unfold Func.isWrapper; first | (rw [if_pos (by decide +kernel)]; kernel_rfl) | (rw [if_neg (by decide +kernel)]; exact ⟨rfl, rfl⟩))
    (fun os started H enc _ F => by rw [OpenClaim.pre_eq_preRow]; exact lifted os started H enc F)
theorem stand : ∀ t ∈ ([22, 5, 36] : List TypeId), Tryd.prog.wantsStandIn t = false := by
  intro t ht
  simp only [List.mem_cons, List.not_mem_nil, or_false] at ht
  rcases ht with rfl | rfl | rfl <;> exact (by kernel_rfl)
theorem plain (f : FuncId) (fn : Func) (hf : Tryd.pinned.checked.prog.funcNamed "chartulary/chartularylaw28.ProofOthers" = some f) (hfn : Tryd.pinned.checked.prog.funcs[f]? = some fn) :
    false = Tryd.pinned.checked.prog.looks [] ∧ ∀ (j : Nat) t, fn.params[j]? = some t → Tryd.pinned.checked.prog.wantsStandIn t = false := by
  obtain rfl : f = 5 := Option.some.inj ((show Tryd.prog.funcNamed "chartulary/chartularylaw28.ProofOthers" = some 5 by kernel_rfl).symm.trans hf) |>.symm
  obtain rfl : fn = Tryd.f5 := (Option.some.inj (Tryd.func5.symm.trans hfn)).symm
  refine ⟨by kernel_rfl, fun j t ht => ?_⟩
  rw [Tryd.params5] at ht
  exact stand t (by simpa using Array.mem_of_getElem? ht)
/-- the card -/
theorem card : Rows.ProofOthersUptoCardSaid :=
  Claim7.holds_tied_plain_at .later [] _ _ _ _ said (fun _ h => by cases h) (by kernel_rfl) (fun _ h => by cases h) proofOthersUpto_row_tie rfl ⟨rfl, rfl⟩ (by kernel_rfl) rfl plain (by kernel_rfl)
#print axioms card
end Go.Proofs.YtafmogdnhpnbiaaDoor
