/- RulesBack, for every input, is true: chartularylaw22.RulesBack, where the arguments are of bulk at most 1048576 and the package variables that are listed hold what the program's text lays (the card ties them). -/
import Derived.Test.YtjbemleloffafaaGreatDoorBf
import Derived.Test.YtjbemleloffafaaGreatDoorCards
import Derived.Test.YtjbemleloffafaaGreatDoorTie
import Derived.Deep.DeepHandedRow
import Derived.Deep.DeepWitnessRowRef
import Derived.Lay
import Derived.WalkKit
import Derived.ProofKit
import Derived.OpenShut
import Derived.Shelf.Vars
namespace Go.Proofs.YtjbemleloffafaaGreatDoor
open Go Go.ChangeShapes Go.WideShapes Go.ChangeAt Go.RowKit
open V
set_option maxRecDepth 100000
set_option linter.unusedVariables false
set_option linter.unusedSimpArgs false

theorem has_str {P : Program} {y : D} {t : TypeId} {w : World} {S : Addr → Prop} {vs : List Value} (ht : und P t = some .string) (h : RepT P w S y t vs) : ∃ l, y = .str l := by
  cases y <;> simp only [RepT] at h
  case str l => exact ⟨l, rfl⟩
  case int k n => rw [ht] at h; simp at h
  case bool b => rw [ht] at h; simp at h
  case slice c xs => obtain ⟨e, a, cap, h, _⟩ := h; rw [ht] at h; simp at h
  case agg fs =>
    rcases h with ⟨flds, h, _⟩ | ⟨n, e, h, _⟩ <;> (rw [ht] at h; simp at h)
theorem has_int {P : Program} {y : D} {t : TypeId} {k : IntKind} {w : World} {S : Addr → Prop} {vs : List Value} (ht : und P t = some (.int k)) (h : RepT P w S y t vs) (hf : fineD y) : ∃ n, y = .int k n ∧ k.min ≤ n ∧ n ≤ k.max := by
  cases y <;> simp only [RepT] at h
  case int k' n =>
    rw [ht] at h
    obtain ⟨h, _⟩ := h
    cases h
    simp only [fineD] at hf
    exact ⟨n, rfl, hf.1, hf.2⟩
  case str l => rw [ht] at h; simp at h
  case bool b => rw [ht] at h; simp at h
  case slice c xs => obtain ⟨e, a, cap, h, _⟩ := h; rw [ht] at h; simp at h
  case agg fs =>
    rcases h with ⟨flds, h, _⟩ | ⟨n, e, h, _⟩ <;> (rw [ht] at h; simp at h)
theorem has_bool {P : Program} {y : D} {t : TypeId} {w : World} {S : Addr → Prop} {vs : List Value} (ht : und P t = some .bool) (h : RepT P w S y t vs) : ∃ b, y = .bool b := by
  cases y <;> simp only [RepT] at h
  case bool b => exact ⟨b, rfl⟩
  case int k n => rw [ht] at h; simp at h
  case str l => rw [ht] at h; simp at h
  case slice c xs => obtain ⟨e, a, cap, h, _⟩ := h; rw [ht] at h; simp at h
  case agg fs =>
    rcases h with ⟨flds, h, _⟩ | ⟨n, e, h, _⟩ <;> (rw [ht] at h; simp at h)
theorem fs_cons {P : Program} {w : World} {S : Addr → Prop} {ys : List D} {t : TypeId} {ts : List TypeId} {vs : List Value} (h : RepFs P w S ys (t :: ts) vs) : ∃ y r v1 v2, ys = y :: r ∧ RepT P w S y t v1 ∧ RepFs P w S r ts v2 := by
  cases ys with
  | nil => simp [RepFs] at h
  | cons y r =>
    simp only [RepFs] at h
    obtain ⟨t', ts', v1, v2, h1, _, h3, h4⟩ := h
    cases h1
    exact ⟨y, r, v1, v2, rfl, h3, h4⟩
theorem fs_nil {P : Program} {w : World} {S : Addr → Prop} {ys : List D} {vs : List Value} (h : RepFs P w S ys [] vs) : ys = [] := by
  cases ys with
  | nil => rfl
  | cons y r => simp only [RepFs] at h; obtain ⟨t', ts', v1, v2, h1, _⟩ := h; cases h1
theorem has_slice {P : Program} {y : D} {t e : TypeId} {w : World} {S : Addr → Prop} {vs : List Value} (ht : und P t = some (.slice e)) (h : RepT P w S y t vs) (hf : fineD y) : ∃ c l, y = .slice c l ∧ fineL l ∧ (l = [] ∨ ∃ b o, RepRow P w S l e b o) := by
  cases y <;> simp only [RepT] at h
  case slice c xs =>
    obtain ⟨e', a, cap, h1, _, _, h2⟩ := h
    rw [ht] at h1
    cases h1
    simp only [fineD] at hf
    refine ⟨c, xs, rfl, hf.2.2, ?_⟩
    rcases h2 with h2 | ⟨b, o, _, h2⟩
    · exact .inl h2
    · exact .inr ⟨b, o, h2⟩
  case int k n => rw [ht] at h; simp at h
  case str l => rw [ht] at h; simp at h
  case bool b => rw [ht] at h; simp at h
  case agg fs =>
    rcases h with ⟨flds, h, _⟩ | ⟨n, e, h, _⟩ <;> (rw [ht] at h; simp at h)
theorem has_struct {P : Program} {y : D} {t : TypeId} {ts : List TypeId} {w : World} {S : Addr → Prop} {vs : List Value} (ht : (match und P t with | some (.struct fl) => some (fl.toList.map (·.type)) | _ => none) = some ts) (h : RepT P w S y t vs) (hf : fineD y) : ∃ fs, y = .agg fs ∧ fineL fs ∧ RepFs P w S fs ts vs := by
  cases y <;> simp only [RepT] at h
  case agg fs =>
    simp only [fineD] at hf
    rcases h with ⟨flds, h, h2⟩ | ⟨n, e, h, _⟩
    · rw [h] at ht
      cases ht
      exact ⟨fs, rfl, hf, h2⟩
    · rw [h] at ht; simp at ht
  case int k n => rw [h.1] at ht; simp at ht
  case str l => rw [h.1] at ht; simp at ht
  case bool b => rw [h.1] at ht; simp at ht
  case slice c xs => obtain ⟨e, a, cap, h, _⟩ := h; rw [h] at ht; simp at ht
theorem row_all {P : Program} {w : World} {S : Addr → Prop} {e : TypeId} {q : D → Bool} (hq : ∀ y vs, RepT P w S y e vs → fineD y → q y = true) : ∀ (l : List D) (b o : Nat), fineL l → RepRow P w S l e b o → l.all q = true
  | [], _, _, _, _ => rfl
  | y :: r, b, o, hf, h => by
    simp only [RepRow] at h
    simp only [fineL] at hf
    obtain ⟨vs, _, h1, h2⟩ := h
    rw [List.all_cons, hq y vs h1 hf.1, row_all hq r _ _ hf.2 h2]; rfl
theorem row_all' {P : Program} {w : World} {S : Addr → Prop} {e : TypeId} {q : D → Bool} {l : List D} (hq : ∀ y vs, RepT P w S y e vs → fineD y → q y = true) (hf : fineL l) (h : l = [] ∨ ∃ b o, RepRow P w S l e b o) : l.all q = true := by
  rcases h with rfl | ⟨b, o, h⟩
  · rfl
  · exact row_all hq l b o hf h
theorem bulkL_len : ∀ l : List D, l.length ≤ bulkL l
  | [] => Nat.le_refl _
  | y :: r => by
    have := bulkL_len r
    have h1 : 1 ≤ bulkD y := by cases y <;> simp only [bulkD] <;> omega
    simp only [bulkL, List.length_cons]; omega
theorem isT_of {mx : Int} {y : D} {w : World} {S : Addr → Prop} {vs : List Value} (h : RepT (ΓN mx).P w S y 85 vs) (hf : fineD y) : isT y = true := by
  obtain ⟨fs, rfl, gf, h⟩ := has_struct (ts := [9, 9]) (by kernel_rfl) h hf
  obtain ⟨y1, r1, _, _, rfl, h1, q1⟩ := fs_cons h
  obtain ⟨y2, r2, _, _, rfl, h2, q2⟩ := fs_cons q1
  obtain rfl := fs_nil q2
  obtain ⟨x1, rfl⟩ := has_str (by kernel_rfl) h1
  obtain ⟨x2, rfl⟩ := has_str (by kernel_rfl) h2
  rfl
theorem sh_bulk : ∀ {l : List D}, l.all isT = true → bulkL l ≤ 4194304 → l.all shT = true
  | [], _, _ => rfl
  | d :: r, h, hb => by
    have h : isT d = true ∧ r.all isT = true := by simpa using h
    obtain ⟨a, b, rfl⟩ := isT_ex h.1
    simp only [bulkL, bulkD] at hb
    have e : shT (.agg [.str a, .str b]) = (short a && short b) := rfl
    rw [List.all_cons, e, short_of (by omega), short_of (by omega), sh_bulk h.2 (by omega)]; rfl
theorem tC_bulk {l : List D} (h : l.all isT = true) (hb : bulkL l ≤ 1048576) : tC l = true := tC_of (by have := bulkL_len l; omega) (sh_bulk h (by omega))
def isR : D → Bool
  | .agg [.str _, .slice _ t, .int .i64 _, .int .i64 _, .bool _] => t.all isT
  | _ => false
theorem isR_eq {d : D} (h : isR d = true) : ∃ p c t a b m, d = .agg [.str p, .slice c t, .int .i64 a, .int .i64 b, .bool m] ∧ t.all isT = true := by
  unfold isR at h
  split at h
  · exact ⟨_, _, _, _, _, _, rfl, h⟩
  · exact absurd h (by simp)
theorem isR_of {mx : Int} {y : D} {w : World} {S : Addr → Prop} {vs : List Value} (h : RepT (ΓN mx).P w S y 36 vs) (hf : fineD y) : isR y = true := by
  obtain ⟨fs, rfl, gf, h⟩ := has_struct (ts := [9, 34, 3, 3, 4]) (by kernel_rfl) h hf
  obtain ⟨y1, r1, _, _, rfl, h1, q1⟩ := fs_cons h
  obtain ⟨y2, r2, _, _, rfl, h2, q2⟩ := fs_cons q1
  obtain ⟨y3, r3, _, _, rfl, h3, q3⟩ := fs_cons q2
  obtain ⟨y4, r4, _, _, rfl, h4, q4⟩ := fs_cons q3
  obtain ⟨y5, r5, _, _, rfl, h5, q5⟩ := fs_cons q4
  obtain rfl := fs_nil q5
  simp only [fineL] at gf
  obtain ⟨x1, rfl⟩ := has_str (by kernel_rfl) h1
  obtain ⟨c2, x2, rfl, g2, k2⟩ := has_slice (by kernel_rfl) h2 gf.2.1
  obtain ⟨x3, rfl, _⟩ := has_int (k := .i64) (by kernel_rfl) h3 gf.2.2.1
  obtain ⟨x4, rfl, _⟩ := has_int (k := .i64) (by kernel_rfl) h4 gf.2.2.2.1
  obtain ⟨x5, rfl⟩ := has_bool (by kernel_rfl) h5
  exact row_all' (e := 85) (fun y vs h hf => isT_of (mx := mx) h hf) g2 k2
def isQ (d : D) : Bool := isR d
theorem isQ_of {mx : Int} {y : D} {w : World} {S : Addr → Prop} {vs : List Value} (h : RepT (ΓN mx).P w S y 36 vs) (hf : fineD y) : isQ y = true := isR_of (mx := mx) h hf
theorem isQ_eq {d : D} (h : isQ d = true) : ∃ p c t a b m, d = .agg [.str p, .slice c t, .int .i64 a, .int .i64 b, .bool m] := by
  obtain ⟨p, c, t, a, b, m, e, _⟩ := isR_eq h
  exact ⟨p, c, t, a, b, m, e⟩
theorem rc_bulk {p : List UInt8} {c : Cp} {t : List D} {a b : Int} {m : Bool} (h : isQ (.agg [.str p, .slice c t, .int .i64 a, .int .i64 b, .bool m]) = true) (hp : p.length ≤ 1048576) (hb : bulkL t ≤ 1048576) : rC (.agg [.str p, .slice c t, .int .i64 a, .int .i64 b, .bool m]) = true := by
  show (short p && tC t) = true
  rw [short_of (by omega), tC_bulk h hb]; rfl
theorem lawD (mx : Int) (ys : List D) (h : HasL (ΓN mx).P ys [36, 9]) (hf : fineL ys) (hb : bulkL ys ≤ 1048576) : Ret (ΓN mx) 5 (argsOf (ΓN mx).P [36, 9] ys) (.b true) := by
  obtain ⟨w, S, vs, h⟩ := h
  obtain ⟨y1, r1, _, _, rfl, h1, q1⟩ := fs_cons h
  simp only [fineL] at hf
  obtain ⟨g1, hf⟩ := hf
  have a1 : isQ y1 = true := isQ_of h1 g1
  obtain ⟨rp1, rc1, rt1, ra1, rb1, rm1, rfl⟩ := isQ_eq a1
  obtain ⟨y2, r2, _, _, rfl, h2, q2⟩ := fs_cons q1
  simp only [fineL] at hf
  obtain ⟨g2, hf⟩ := hf
  obtain ⟨x2, rfl⟩ := has_str (by kernel_rfl) h2
  obtain rfl := fs_nil q2
  have e1 : underId (ΓN mx).P 36 = 35 := by kernel_rfl
  simp only [argsOf, fromD, e1]
  simp only [bulkL, bulkD] at hb
  have b2 : x2.length ≤ 1048576 := by omega
  exact ((law5 (.agg [.str rp1, .slice rc1 rt1, .int .i64 ra1, .int .i64 rb1, .bool rm1]) x2 (rc_bulk a1 (by omega) (by omega)) (short_of (by omega))).ret (by kernel_rfl))

/-! ### the claim -/
theorem ownK : ownKnob Tryz.prog.godebug = none := by kernel_rfl
theorem globs_ok (mx : Int) {W : World} (h : laidMetH Tryz.prog Rows.rulesBackUptoRow.laid W) (hm : W.cell? ⟨4, 0, none⟩ = some (.int .i64 mx)) : GlobOK (ΓN mx) W (InW W) := by
  have h : laidMet Tryz.prog Rows.rulesBackUptoRow.laid W := h
  refine ⟨?_, ?_⟩
  rotate_left
  · intro g hg
    have hg : g ∈ ([5, 6] : List Nat) := hg
    simp only [List.mem_cons, List.not_mem_nil, or_false] at hg
    rcases hg with rfl | rfl
    · exact if_of h (n := "strconv.ErrSyntax") (t := 92) (List.mem_cons_of_mem _ (List.mem_cons_of_mem _ (List.mem_cons_of_mem _ (List.mem_cons_of_mem _ (List.mem_cons_of_mem _ (List.mem_cons_self ..)))))) (by kernel_rfl) (by kernel_rfl) (by kernel_rfl)
    · exact if_of h (n := "strconv.ErrRange") (t := 92) (List.mem_cons_of_mem _ (List.mem_cons_of_mem _ (List.mem_cons_of_mem _ (List.mem_cons_of_mem _ (List.mem_cons_self ..))))) (by kernel_rfl) (by kernel_rfl) (by kernel_rfl)
  intro g t x hg
  match g, hg with
  | 0, hg =>
    cases hg
    exact glob_of (hPN (mx := mx)) h (n := "chartulary/rules.fields") (List.mem_cons_of_mem _ (List.mem_cons_of_mem _ (List.mem_cons_of_mem _ (List.mem_cons_of_mem _ (List.mem_cons_of_mem _ (List.mem_cons_of_mem _ (List.mem_cons_self ..))))))) (by kernel_rfl) (by kernel_rfl) (by kernel_rfl) (by kernel_rfl)
  | 1, hg =>
    cases hg
    exact glob_of (hPN (mx := mx)) h (n := "unicode/utf8.first") (List.mem_cons_of_mem _ (List.mem_cons_of_mem _ (List.mem_cons_of_mem _ (List.mem_cons_of_mem _ (List.mem_cons_of_mem _ (List.mem_cons_of_mem _ (List.mem_cons_of_mem _ (List.mem_cons_self ..)))))))) (by kernel_rfl) (by kernel_rfl) (by kernel_rfl) (by kernel_rfl)
  | 2, hg =>
    cases hg
    exact glob_of (hPN (mx := mx)) h (n := "unicode/utf8.acceptRanges") (List.mem_cons_of_mem _ (List.mem_cons_of_mem _ (List.mem_cons_of_mem _ (List.mem_cons_self ..)))) (by kernel_rfl) (by kernel_rfl) (by kernel_rfl) (by kernel_rfl)
  | 3, hg =>
    cases hg
    exact glob_of (hPN (mx := mx)) h (n := "internal/strconv.uint64pow10") (List.mem_cons_of_mem _ (List.mem_cons_of_mem _ (List.mem_cons_self ..))) (by kernel_rfl) (by kernel_rfl) (by kernel_rfl) (by kernel_rfl)
  | 4, hg =>
    cases hg
    refine ⟨[.int .i64 mx], fun j v hj => ?_, ?_, fun fs hfs => by cases hfs⟩
    · match j, hj with
      | 0, hj => cases hj; exact ⟨hm, in_world hm⟩
      | j + 1, hj => exact absurd hj (by simp)
    · simp only [RepT]
      exact ⟨by kernel_rfl, trivial⟩
theorem contract (H : Type) (enc : TypeId × Value → H) (W : World) (base : Nat) (args : Array Value) (ds gs : List (DataW H)) (before : List MemPlace)
    (hval : ∀ (j : Nat) t v, Tryz.f5.params[j]? = some t → args[j]? = some v → Value.okWide Tryz.prog W .any base t v)
    (hW : DataW.Whole enc Tryz.prog Tryz.f5.params.toList Rows.rulesBackSpec.vars false W args.toList ds gs before) (hL : laidMetH Tryz.prog Rows.rulesBackUptoRow.laid W) (hsh : W.ShapedOpen Tryz.prog) (hk : Rows.uptoSmall H (ds ++ gs) = true) :
    Calls Tryz.prog 5 args W fun e W' => ∃ v, e = .returned v ∧ Rows.rulesBackSpec.post enc Tryz.prog Tryz.f5 false true false false W args v W' := by
  obtain ⟨mx, hm⟩ := cell_of_shapedOpen_int (zero := #[.int .i64 0]) (t := 3) hsh (g := 4) (of_decide_eq_true (by kernel_rfl)) (by kernel_rfl) rfl (by kernel_rfl) (by kernel_rfl) Tryz.underlying3
  exact contract_ok (Γ := (ΓN mx)) (hPN (mx := mx)) (by kernel_rfl) (by kernel_rfl) (by kernel_rfl) (tb := 4) Tryz.func5 (by kernel_rfl) (by kernel_rfl) (by kernel_rfl) (by kernel_rfl) (by kernel_rfl) (s := Rows.rulesBackSpec) rfl
    (fun ds hd => by
      have hd : ds.length = 2 := hd
      match ds, hd with
      | [_, _], _ => rfl)
    (fun ys h hf hb => lawD mx ys h hf hb) W (globs_ok mx hL hm) base args ds gs before hval hW hk
theorem laid_met (os : Os) : laidMet Tryz.prog Rows.rulesBackUptoRow.laid ((World.laidAll Tryz.prog os Rows.rulesBackUptoRow.laid).forCall (fun _ _ => 0) ⟨#[], #[.agg #[.string .empty, .slice none 0 0, .int .i64 0, .int .i64 0, .bool false], .string .empty], []⟩).memory :=
  laidMet_laidAll #[.agg #[.string .empty, .slice none 0 0, .int .i64 0, .int .i64 0, .bool false], .string .empty] (by kernel_rfl) (by kernel_rfl)
theorem reads (os : Os) {H : Type} (enc : TypeId × Value → H) : ∃ places, DataW.whole enc Tryz.prog ((World.laidAll Tryz.prog os Rows.rulesBackUptoRow.laid).forCall (fun _ _ => 0) ⟨#[], #[.agg #[.string .empty, .slice none 0 0, .int .i64 0, .int .i64 0, .bool false], .string .empty], []⟩).memory Tryz.f5.params.toList Rows.rulesBackSpec.vars false (#[.agg #[.string .empty, .slice none 0 0, .int .i64 0, .int .i64 0, .bool false], .string .empty] : Array Value).toList 8 = some ([.agg [.lit (.string []), .nil, .lit (.int .i64 0), .lit (.int .i64 0), .lit (.bool false)], .lit (.string [])], [], places) :=
  ⟨[], by kernel_rfl⟩
theorem lifted (os : Os) (started : os.Started) (H : Type) (enc : TypeId × Value → H) (F : Stop.Interp) :
    ReturnsInHanded {} Tryz.checked os 5 .any ((Rows.OpenSpec.upto Rows.rulesBackSpec).preRow enc Tryz.prog Tryz.f5 Rows.rulesBackUptoRow.domain false Rows.rulesBackUptoRow.laid) (((Rows.OpenSpec.upto Rows.rulesBackSpec).at F).post enc Tryz.prog Tryz.f5 false true false false) := by
  obtain ⟨places, hx⟩ := reads os enc
  refine returnsInHanded_of_row (C := Tryz.checked) (s := Rows.OpenSpec.upto Rows.rulesBackSpec) ownK started (by kernel_rfl) Tryz.func5
    (witness_row_atRef (enc := enc) (C := Tryz.checked) false (World.laidAll Tryz.prog os Rows.rulesBackUptoRow.laid) #[.agg #[.string .empty, .slice none 0 0, .int .i64 0, .int .i64 0, .bool false], .string .empty] (World.laidAll_os _ _ _) (by kernel_rfl) (by kernel_rfl) (by kernel_rfl)
      (OpenSpec.preRow_of_cond 8 hx (by kernel_rfl) (fun k hk => by cases hk; kernel_rfl) (by kernel_rfl) (laid_met os))) ?_
  intro W base args ds gs before hval hW h1 h2 h3 hL h5 h6
  first
    | exact contract H enc W base args ds gs before hval hW hL h5 (h1 _ rfl)
    | exact contract H enc W base args ds gs before hval hW hL h5 (h2 _ rfl)
    | exact contract H enc W base args ds gs before hval hW hL h5 (h3 _ rfl)
theorem said : Rows.RulesBackUptoSaid :=
  OpenClaim.holds_of_cond 5 Tryz.f5 rfl rfl rfl rfl rfl rfl rfl ⟨rfl, rfl, rfl, rfl, rfl⟩ rfl rfl rfl rfl rfl (by kernel_rfl) Tryz.func5 (by kernel_rfl)
    (of_decide_eq_true (by kernel_rfl)) (by unfold Func.isWrapper; first | (rw [if_pos (by decide +kernel)]; kernel_rfl) | (rw [if_neg (by decide +kernel)]; exact ⟨rfl, rfl⟩))
    (fun os started H enc _ F => by rw [OpenClaim.pre_eq_preRow]; exact lifted os started H enc F)
theorem stand : ∀ t ∈ ([36, 9] : List TypeId), Tryz.prog.wantsStandIn t = false := by
  intro t ht
  simp only [List.mem_cons, List.not_mem_nil, or_false] at ht
  rcases ht with rfl | rfl <;> exact (by kernel_rfl)
theorem plain (f : FuncId) (fn : Func) (hf : Tryz.pinned.checked.prog.funcNamed "chartulary/chartularylaw22.RulesBack" = some f) (hfn : Tryz.pinned.checked.prog.funcs[f]? = some fn) :
    true = Tryz.pinned.checked.prog.looks [] ∧ ∀ (j : Nat) t, fn.params[j]? = some t → Tryz.pinned.checked.prog.wantsStandIn t = false := by
  obtain rfl : f = 5 := Option.some.inj ((show Tryz.prog.funcNamed "chartulary/chartularylaw22.RulesBack" = some 5 by kernel_rfl).symm.trans hf) |>.symm
  obtain rfl : fn = Tryz.f5 := (Option.some.inj (Tryz.func5.symm.trans hfn)).symm
  refine ⟨by kernel_rfl, fun j t ht => ?_⟩
  rw [Tryz.params5] at ht
  exact stand t (by simpa using Array.mem_of_getElem? ht)
/-- the card -/
theorem card : Rows.RulesBackUptoCardSaid :=
  Claim7.holds_tied_plain_at .later [] _ _ _ _ said (fun _ h => by cases h) (by kernel_rfl) (fun _ h => by cases h) rulesBackUpto_row_tie rfl ⟨rfl, rfl⟩ (by kernel_rfl) rfl plain (by kernel_rfl)
#print axioms card
end Go.Proofs.YtjbemleloffafaaGreatDoor
