/- RulesSoon, for every input, is true: chartularylaw22.RulesSoon, where the arguments are of bulk at most 1048576 and the package variables that are listed hold what the program's text lays (the card ties them). -/
import Derived.Test.YtjbemleloffafaaGreatDoorBe
import Derived.Test.YtjbemleloffafaaGreatDoorCards
import Derived.Test.YtjbemleloffafaaGreatDoorTie
import Derived.Deep.DeepHandedRow
import Derived.Deep.DeepWitnessRowRef
import Derived.Lay
import Derived.WalkKit
import Derived.ProofKit
import Derived.OpenShut
import Derived.Shelf.Vars
namespace Go.Proofs.YtjbemleloffafaaGreatDoor
open Go Go.ChangeShapes Go.WideShapes Go.ChangeAt Go.RowKit
open V
set_option maxRecDepth 100000
set_option linter.unusedVariables false
set_option linter.unusedSimpArgs false

theorem has_str {P : Program} {y : D} {t : TypeId} {w : World} {S : Addr → Prop} {vs : List Value} (ht : und P t = some .string) (h : RepT P w S y t vs) : ∃ l, y = .str l := by
  cases y <;> simp only [RepT] at h
  case str l => exact ⟨l, rfl⟩
  case int k n => rw [ht] at h; simp at h
  case bool b => rw [ht] at h; simp at h
  case slice c xs => obtain ⟨e, a, cap, h, _⟩ := h; rw [ht] at h; simp at h
  case agg fs =>
    rcases h with ⟨flds, h, _⟩ | ⟨n, e, h, _⟩ <;> (rw [ht] at h; simp at h)
theorem has_int {P : Program} {y : D} {t : TypeId} {k : IntKind} {w : World} {S : Addr → Prop} {vs : List Value} (ht : und P t = some (.int k)) (h : RepT P w S y t vs) (hf : fineD y) : ∃ n, y = .int k n ∧ k.min ≤ n ∧ n ≤ k.max := by
  cases y <;> simp only [RepT] at h
  case int k' n =>
    rw [ht] at h
    obtain ⟨h, _⟩ := h
    cases h
    simp only [fineD] at hf
    exact ⟨n, rfl, hf.1, hf.2⟩
  case str l => rw [ht] at h; simp at h
  case bool b => rw [ht] at h; simp at h
  case slice c xs => obtain ⟨e, a, cap, h, _⟩ := h; rw [ht] at h; simp at h
  case agg fs =>
    rcases h with ⟨flds, h, _⟩ | ⟨n, e, h, _⟩ <;> (rw [ht] at h; simp at h)
theorem has_bool {P : Program} {y : D} {t : TypeId} {w : World} {S : Addr → Prop} {vs : List Value} (ht : und P t = some .bool) (h : RepT P w S y t vs) : ∃ b, y = .bool b := by
  cases y <;> simp only [RepT] at h
  case bool b => exact ⟨b, rfl⟩
  case int k n => rw [ht] at h; simp at h
  case str l => rw [ht] at h; simp at h
  case slice c xs => obtain ⟨e, a, cap, h, _⟩ := h; rw [ht] at h; simp at h
  case agg fs =>
    rcases h with ⟨flds, h, _⟩ | ⟨n, e, h, _⟩ <;> (rw [ht] at h; simp at h)
theorem fs_cons {P : Program} {w : World} {S : Addr → Prop} {ys : List D} {t : TypeId} {ts : List TypeId} {vs : List Value} (h : RepFs P w S ys (t :: ts) vs) : ∃ y r v1 v2, ys = y :: r ∧ RepT P w S y t v1 ∧ RepFs P w S r ts v2 := by
  cases ys with
  | nil => simp [RepFs] at h
  | cons y r =>
    simp only [RepFs] at h
    obtain ⟨t', ts', v1, v2, h1, _, h3, h4⟩ := h
    cases h1
    exact ⟨y, r, v1, v2, rfl, h3, h4⟩
theorem fs_nil {P : Program} {w : World} {S : Addr → Prop} {ys : List D} {vs : List Value} (h : RepFs P w S ys [] vs) : ys = [] := by
  cases ys with
  | nil => rfl
  | cons y r => simp only [RepFs] at h; obtain ⟨t', ts', v1, v2, h1, _⟩ := h; cases h1
theorem has_slice {P : Program} {y : D} {t e : TypeId} {w : World} {S : Addr → Prop} {vs : List Value} (ht : und P t = some (.slice e)) (h : RepT P w S y t vs) (hf : fineD y) : ∃ c l, y = .slice c l ∧ fineL l ∧ (l = [] ∨ ∃ b o, RepRow P w S l e b o) := by
  cases y <;> simp only [RepT] at h
  case slice c xs =>
    obtain ⟨e', a, cap, h1, _, _, h2⟩ := h
    rw [ht] at h1
    cases h1
    simp only [fineD] at hf
    refine ⟨c, xs, rfl, hf.2.2, ?_⟩
    rcases h2 with h2 | ⟨b, o, _, h2⟩
    · exact .inl h2
    · exact .inr ⟨b, o, h2⟩
  case int k n => rw [ht] at h; simp at h
  case str l => rw [ht] at h; simp at h
  case bool b => rw [ht] at h; simp at h
  case agg fs =>
    rcases h with ⟨flds, h, _⟩ | ⟨n, e, h, _⟩ <;> (rw [ht] at h; simp at h)
theorem has_struct {P : Program} {y : D} {t : TypeId} {ts : List TypeId} {w : World} {S : Addr → Prop} {vs : List Value} (ht : (match und P t with | some (.struct fl) => some (fl.toList.map (·.type)) | _ => none) = some ts) (h : RepT P w S y t vs) (hf : fineD y) : ∃ fs, y = .agg fs ∧ fineL fs ∧ RepFs P w S fs ts vs := by
  cases y <;> simp only [RepT] at h
  case agg fs =>
    simp only [fineD] at hf
    rcases h with ⟨flds, h, h2⟩ | ⟨n, e, h, _⟩
    · rw [h] at ht
      cases ht
      exact ⟨fs, rfl, hf, h2⟩
    · rw [h] at ht; simp at ht
  case int k n => rw [h.1] at ht; simp at ht
  case str l => rw [h.1] at ht; simp at ht
  case bool b => rw [h.1] at ht; simp at ht
  case slice c xs => obtain ⟨e, a, cap, h, _⟩ := h; rw [h] at ht; simp at ht
theorem row_all {P : Program} {w : World} {S : Addr → Prop} {e : TypeId} {q : D → Bool} (hq : ∀ y vs, RepT P w S y e vs → fineD y → q y = true) : ∀ (l : List D) (b o : Nat), fineL l → RepRow P w S l e b o → l.all q = true
  | [], _, _, _, _ => rfl
  | y :: r, b, o, hf, h => by
    simp only [RepRow] at h
    simp only [fineL] at hf
    obtain ⟨vs, _, h1, h2⟩ := h
    rw [List.all_cons, hq y vs h1 hf.1, row_all hq r _ _ hf.2 h2]; rfl
theorem row_all' {P : Program} {w : World} {S : Addr → Prop} {e : TypeId} {q : D → Bool} {l : List D} (hq : ∀ y vs, RepT P w S y e vs → fineD y → q y = true) (hf : fineL l) (h : l = [] ∨ ∃ b o, RepRow P w S l e b o) : l.all q = true := by
  rcases h with rfl | ⟨b, o, h⟩
  · rfl
  · exact row_all hq l b o hf h
theorem bulkL_len : ∀ l : List D, l.length ≤ bulkL l
  | [] => Nat.le_refl _
  | y :: r => by
    have := bulkL_len r
    have h1 : 1 ≤ bulkD y := by cases y <;> simp only [bulkD] <;> omega
    simp only [bulkL, List.length_cons]; omega
theorem arr_u8 {mx : Int} {w : World} {S : Addr → Prop} : ∀ (n : Nat) (fs : List D) (vs : List Value), RepFs (ΓR mx).P w S fs (List.replicate n 5) vs → fineL fs → fs.length = n ∧ fs.all isU8 = true
  | 0, fs, vs, h, _ => by
    obtain rfl := fs_nil h
    exact ⟨rfl, rfl⟩
  | n + 1, fs, vs, h, hf => by
    rw [List.replicate_succ] at h
    obtain ⟨y, r, _, _, rfl, h1, h2⟩ := fs_cons h
    simp only [fineL] at hf
    obtain ⟨x, rfl, _⟩ := has_int (k := .u8) (by kernel_rfl) h1 hf.1
    obtain ⟨k1, k2⟩ := arr_u8 n r _ h2 hf.2
    exact ⟨by rw [List.length_cons, k1], by rw [List.all_cons, k2]; rfl⟩
theorem has_dg {mx : Int} {y : D} {w : World} {S : Addr → Prop} {vs : List Value} (h : RepT (ΓR mx).P w S y 53 vs) (hf : fineD y) : ∃ fs, y = .agg fs ∧ dgC fs = true := by
  have ht : und (ΓR mx).P 53 = some (.array 32 5) := by kernel_rfl
  cases y <;> simp only [RepT] at h
  case agg fs =>
    rcases h with ⟨flds, h, _⟩ | ⟨n, e, h, _, h2⟩
    · rw [ht] at h; simp at h
    · rw [ht] at h
      cases h
      simp only [fineD] at hf
      obtain ⟨k1, k2⟩ := arr_u8 32 fs _ h2 hf
      refine ⟨fs, rfl, ?_⟩
      unfold dgC
      rw [k1, k2]; rfl
  case str l => rw [ht] at h; simp at h
  case int k n => rw [ht] at h; simp at h
  case bool b => rw [ht] at h; simp at h
  case slice c xs => obtain ⟨e, a, cap, h, _⟩ := h; rw [ht] at h; simp at h
theorem isT_of {mx : Int} {y : D} {w : World} {S : Addr → Prop} {vs : List Value} (h : RepT (ΓR mx).P w S y 85 vs) (hf : fineD y) : isT y = true := by
  obtain ⟨fs, rfl, gf, h⟩ := has_struct (ts := [9, 9]) (by kernel_rfl) h hf
  obtain ⟨y1, r1, _, _, rfl, h1, q1⟩ := fs_cons h
  obtain ⟨y2, r2, _, _, rfl, h2, q2⟩ := fs_cons q1
  obtain rfl := fs_nil q2
  obtain ⟨x1, rfl⟩ := has_str (by kernel_rfl) h1
  obtain ⟨x2, rfl⟩ := has_str (by kernel_rfl) h2
  rfl
theorem sh_bulk : ∀ {l : List D}, l.all isT = true → bulkL l ≤ 4194304 → l.all shT = true
  | [], _, _ => rfl
  | d :: r, h, hb => by
    have h : isT d = true ∧ r.all isT = true := by simpa using h
    obtain ⟨a, b, rfl⟩ := isT_ex h.1
    simp only [bulkL, bulkD] at hb
    have e : shT (.agg [.str a, .str b]) = (short a && short b) := rfl
    rw [List.all_cons, e, short_of (by omega), short_of (by omega), sh_bulk h.2 (by omega)]; rfl
theorem tC_bulk {l : List D} (h : l.all isT = true) (hb : bulkL l ≤ 1048576) : tC l = true := tC_of (by have := bulkL_len l; omega) (sh_bulk h (by omega))
def isR : D → Bool
  | .agg [.str _, .slice _ t, .int .i64 _, .int .i64 _, .bool _] => t.all isT
  | _ => false
theorem isR_eq {d : D} (h : isR d = true) : ∃ p c t a b m, d = .agg [.str p, .slice c t, .int .i64 a, .int .i64 b, .bool m] ∧ t.all isT = true := by
  unfold isR at h
  split at h
  · exact ⟨_, _, _, _, _, _, rfl, h⟩
  · exact absurd h (by simp)
theorem isR_of {mx : Int} {y : D} {w : World} {S : Addr → Prop} {vs : List Value} (h : RepT (ΓR mx).P w S y 36 vs) (hf : fineD y) : isR y = true := by
  obtain ⟨fs, rfl, gf, h⟩ := has_struct (ts := [9, 34, 3, 3, 4]) (by kernel_rfl) h hf
  obtain ⟨y1, r1, _, _, rfl, h1, q1⟩ := fs_cons h
  obtain ⟨y2, r2, _, _, rfl, h2, q2⟩ := fs_cons q1
  obtain ⟨y3, r3, _, _, rfl, h3, q3⟩ := fs_cons q2
  obtain ⟨y4, r4, _, _, rfl, h4, q4⟩ := fs_cons q3
  obtain ⟨y5, r5, _, _, rfl, h5, q5⟩ := fs_cons q4
  obtain rfl := fs_nil q5
  simp only [fineL] at gf
  obtain ⟨x1, rfl⟩ := has_str (by kernel_rfl) h1
  obtain ⟨c2, x2, rfl, g2, k2⟩ := has_slice (by kernel_rfl) h2 gf.2.1
  obtain ⟨x3, rfl, _⟩ := has_int (k := .i64) (by kernel_rfl) h3 gf.2.2.1
  obtain ⟨x4, rfl, _⟩ := has_int (k := .i64) (by kernel_rfl) h4 gf.2.2.2.1
  obtain ⟨x5, rfl⟩ := has_bool (by kernel_rfl) h5
  exact row_all' (e := 85) (fun y vs h hf => isT_of (mx := mx) h hf) g2 k2
def isV (d : D) : Bool := match vOf d with | some v => v.tg.all isT && (dgC v.dg && decide (0 ≤ v.id)) | none => false
theorem isV_eq {d : D} (h : isV d = true) : ∃ v, d = vD v ∧ v.tg.all isT = true ∧ (dgC v.dg && decide (0 ≤ v.id)) = true := by
  unfold isV at h
  cases hv : vOf d with
  | none => rw [hv] at h; exact absurd h (by simp)
  | some v => rw [hv] at h; exact ⟨v, vOf_eq hv, Bool.and_eq_true_iff.1 h⟩
theorem isV_of {mx : Int} {y : D} {w : World} {S : Addr → Prop} {vs : List Value} (h : RepT (ΓR mx).P w S y 55 vs) (hf : fineD y) : isV y = true := by
  obtain ⟨fs, rfl, gf, h⟩ := has_struct (ts := [29, 4, 3, 29, 53, 2, 46, 34]) (by kernel_rfl) h hf
  obtain ⟨y1, r1, _, _, rfl, h1, q1⟩ := fs_cons h
  obtain ⟨y2, r2, _, _, rfl, h2, q2⟩ := fs_cons q1
  obtain ⟨y3, r3, _, _, rfl, h3, q3⟩ := fs_cons q2
  obtain ⟨y4, r4, _, _, rfl, h4, q4⟩ := fs_cons q3
  obtain ⟨y5, r5, _, _, rfl, h5, q5⟩ := fs_cons q4
  obtain ⟨y6, r6, _, _, rfl, h6, q6⟩ := fs_cons q5
  obtain ⟨y7, r7, _, _, rfl, h7, q7⟩ := fs_cons q6
  obtain ⟨y8, r8, _, _, rfl, h8, q8⟩ := fs_cons q7
  obtain rfl := fs_nil q8
  simp only [fineL] at gf
  obtain ⟨g1, g2, g3, g4, g5, g6, g7, g8, _⟩ := gf
  obtain ⟨x1, rfl, n1⟩ := has_int (k := .u64) (by kernel_rfl) h1 g1
  obtain ⟨x2, rfl⟩ := has_bool (by kernel_rfl) h2
  obtain ⟨x3, rfl, _⟩ := has_int (k := .i64) (by kernel_rfl) h3 g3
  obtain ⟨x4, rfl, _⟩ := has_int (k := .u64) (by kernel_rfl) h4 g4
  obtain ⟨x5, rfl, n5⟩ := has_dg h5 g5
  obtain ⟨x6, rfl, _⟩ := has_int (k := .i64) (by kernel_rfl) h6 g6
  obtain ⟨ls, rfl, gl, hl⟩ := has_struct (ts := [3, 2, 4]) (by kernel_rfl) h7 g7
  obtain ⟨z1, s1, _, _, rfl, t1, p1⟩ := fs_cons hl
  obtain ⟨z2, s2, _, _, rfl, t2, p2⟩ := fs_cons p1
  obtain ⟨z3, s3, _, _, rfl, t3, p3⟩ := fs_cons p2
  obtain rfl := fs_nil p3
  simp only [fineL] at gl
  obtain ⟨w1, rfl, _⟩ := has_int (k := .i64) (by kernel_rfl) t1 gl.1
  obtain ⟨w2, rfl, _⟩ := has_int (k := .i64) (by kernel_rfl) t2 gl.2.1
  obtain ⟨w3, rfl⟩ := has_bool (by kernel_rfl) t3
  obtain ⟨c8, x8, rfl, k8, l8⟩ := has_slice (by kernel_rfl) h8 g8
  have ht := row_all' (e := 85) (fun y vs h hf => isT_of (mx := mx) h hf) k8 l8
  show (x8.all isT && (dgC x5 && decide (0 ≤ x1))) = true
  rw [ht, n5, decide_eq_true (Int.le_trans (by decide) n1.1)]; rfl
def isO : D → Bool
  | .agg [.str _, .slice _ l] => l.all isV
  | _ => false
theorem isO_eq {d : D} (h : isO d = true) : ∃ k c l, d = .agg [.str k, .slice c l] := by
  unfold isO at h
  split at h
  · exact ⟨_, _, _, rfl⟩
  · exact absurd h (by simp)
theorem isO_of {mx : Int} {y : D} {w : World} {S : Addr → Prop} {vs : List Value} (h : RepT (ΓR mx).P w S y 25 vs) (hf : fineD y) : isO y = true := by
  obtain ⟨fs, rfl, gf, h⟩ := has_struct (ts := [9, 23]) (by kernel_rfl) h hf
  obtain ⟨y1, r1, _, _, rfl, h1, q1⟩ := fs_cons h
  obtain ⟨y2, r2, _, _, rfl, h2, q2⟩ := fs_cons q1
  obtain rfl := fs_nil q2
  simp only [fineL] at gf
  obtain ⟨x1, rfl⟩ := has_str (by kernel_rfl) h1
  obtain ⟨c2, x2, rfl, g2, k2⟩ := has_slice (by kernel_rfl) h2 gf.2.1
  exact row_all' (e := 55) (fun y vs h hf => isV_of (mx := mx) h hf) g2 k2
theorem rs_all : ∀ {l : List D}, l.all isR = true → bulkL l ≤ 1048576 → l.all rC = true
  | [], _, _ => rfl
  | d :: r, h, hb => by
    have h : isR d = true ∧ r.all isR = true := by simpa using h
    obtain ⟨p, c, t, a, b, m, rfl, ht⟩ := isR_eq h.1
    simp only [bulkL, bulkD] at hb
    have e : rC (.agg [.str p, .slice c t, .int .i64 a, .int .i64 b, .bool m]) = (short p && tC t) := rfl
    rw [List.all_cons, e, short_of (by omega), tC_bulk ht (by omega), rs_all h.2 (by omega)]; rfl
theorem vs_all : ∀ {l : List D}, l.all isV = true → bulkL l ≤ 1048576 → l.all vC = true
  | [], _, _ => rfl
  | d :: r, h, hb => by
    have h : isV d = true ∧ r.all isV = true := by simpa using h
    obtain ⟨v, rfl, ht, hd⟩ := isV_eq h.1
    simp only [vD, bulkL, bulkD] at hb
    have e : vC (vD v) = (tC v.tg && (dgC v.dg && decide (0 ≤ v.id))) := rfl
    rw [List.all_cons, e, tC_bulk ht (by omega), hd, vs_all h.2 (by omega)]; rfl
theorem rs_bulk {l : List D} (h : l.all isR = true) (hb : bulkL l ≤ 1048576) : rsC l = true := by
  have := bulkL_len l
  unfold rsC
  rw [decide_eq_true (by omega), rs_all h hb]; rfl
theorem o_bulk {k : List UInt8} {c : Cp} {l : List D} (h : isO (.agg [.str k, .slice c l]) = true) (hk : k.length ≤ 1048576) (hb : bulkL l ≤ 1048576) : oC (.agg [.str k, .slice c l]) = true := by
  have h : l.all isV = true := h
  have := bulkL_len l
  have e : oC (.agg [.str k, .slice c l]) = (short k && vsC l) := rfl
  rw [e, short_of (by omega)]
  unfold vsC
  rw [decide_eq_true (by omega), vs_all h hb]; rfl
theorem lo_bulk {l : List D} {k : List UInt8} {c : Cp} {ol : List D} (h1 : l.all isR = true) (hb1 : bulkL l ≤ 1048576) (h : isO (.agg [.str k, .slice c ol]) = true) (hk : k.length ≤ 1048576) (hb : bulkL ol ≤ 1048576) : (rsC l && oC (.agg [.str k, .slice c ol])) = true := by
  rw [rs_bulk h1 hb1, o_bulk h hk hb]; rfl
theorem lawD (mx : Int) (ys : List D) (h : HasL (ΓR mx).P ys [22, 25]) (hf : fineL ys) (hb : bulkL ys ≤ 1048576) : Ret (ΓR mx) 3 (argsOf (ΓR mx).P [22, 25] ys) (.b true) := by
  obtain ⟨w, S, vs, h⟩ := h
  obtain ⟨y1, r1, _, _, rfl, h1, q1⟩ := fs_cons h
  simp only [fineL] at hf
  obtain ⟨g1, hf⟩ := hf
  obtain ⟨c1, x1, rfl, g1, k1⟩ := has_slice (by kernel_rfl) h1 g1
  have a1 : x1.all isR = true := row_all' (fun y vs h hf => isR_of h hf) g1 k1
  have l1 := bulkL_len x1
  obtain ⟨y2, r2, _, _, rfl, h2, q2⟩ := fs_cons q1
  simp only [fineL] at hf
  obtain ⟨g2, hf⟩ := hf
  have a2 : isO y2 = true := isO_of h2 g2
  obtain ⟨k2, c2, ol2, rfl⟩ := isO_eq a2
  obtain rfl := fs_nil q2
  have e1 : elemU (ΓR mx).P 22 = 35 := by kernel_rfl
  have e2 : underId (ΓR mx).P 25 = 24 := by kernel_rfl
  simp only [argsOf, fromD, e1, e2]
  simp only [bulkL, bulkD] at hb
  have b1 : x1.length ≤ 1048576 := by omega
  exact ((law3 x1 (.agg [.str k2, .slice c2 ol2]) (lo_bulk a1 (by omega) a2 (by omega) (by omega))).anyc).ret (by kernel_rfl)

/-! ### the claim -/
theorem ownK : ownKnob Tryz.prog.godebug = none := by kernel_rfl
theorem globs_ok (mx : Int) {W : World} (h : laidMetH Tryz.prog Rows.rulesSoonUptoRow.laid W) (hm : W.cell? ⟨4, 0, none⟩ = some (.int .i64 mx)) : GlobOK (ΓR mx) W (InW W) := by
  have h : laidMet Tryz.prog Rows.rulesSoonUptoRow.laid W := h
  refine ⟨?_, ?_⟩
  rotate_left
  · intro g hg
    cases hg
  intro g t x hg
  match g, hg with
  | 0, hg =>
    cases hg
    exact glob_of (hPR (mx := mx)) h (n := "chartulary/rules.fields") (List.mem_cons_of_mem _ (List.mem_cons_of_mem _ (List.mem_cons_of_mem _ (List.mem_cons_of_mem _ (List.mem_cons_of_mem _ (List.mem_cons_of_mem _ (List.mem_cons_self ..))))))) (by kernel_rfl) (by kernel_rfl) (by kernel_rfl) (by kernel_rfl)
  | 1, hg =>
    cases hg
    exact glob_of (hPR (mx := mx)) h (n := "unicode/utf8.first") (List.mem_cons_of_mem _ (List.mem_cons_of_mem _ (List.mem_cons_of_mem _ (List.mem_cons_of_mem _ (List.mem_cons_of_mem _ (List.mem_cons_of_mem _ (List.mem_cons_of_mem _ (List.mem_cons_self ..)))))))) (by kernel_rfl) (by kernel_rfl) (by kernel_rfl) (by kernel_rfl)
  | 2, hg =>
    cases hg
    exact glob_of (hPR (mx := mx)) h (n := "unicode/utf8.acceptRanges") (List.mem_cons_of_mem _ (List.mem_cons_of_mem _ (List.mem_cons_of_mem _ (List.mem_cons_self ..)))) (by kernel_rfl) (by kernel_rfl) (by kernel_rfl) (by kernel_rfl)
  | 4, hg =>
    cases hg
    refine ⟨[.int .i64 mx], fun j v hj => ?_, ?_, fun fs hfs => by cases hfs⟩
    · match j, hj with
      | 0, hj => cases hj; exact ⟨hm, in_world hm⟩
      | j + 1, hj => exact absurd hj (by simp)
    · simp only [RepT]
      exact ⟨by kernel_rfl, trivial⟩
theorem contract (H : Type) (enc : TypeId × Value → H) (W : World) (base : Nat) (args : Array Value) (ds gs : List (DataW H)) (before : List MemPlace)
    (hval : ∀ (j : Nat) t v, Tryz.f3.params[j]? = some t → args[j]? = some v → Value.okWide Tryz.prog W .any base t v)
    (hW : DataW.Whole enc Tryz.prog Tryz.f3.params.toList Rows.rulesSoonSpec.vars false W args.toList ds gs before) (hL : laidMetH Tryz.prog Rows.rulesSoonUptoRow.laid W) (hsh : W.ShapedOpen Tryz.prog) (hk : Rows.uptoSmall H (ds ++ gs) = true) :
    Calls Tryz.prog 3 args W fun e W' => ∃ v, e = .returned v ∧ Rows.rulesSoonSpec.post enc Tryz.prog Tryz.f3 false true false false W args v W' := by
  obtain ⟨mx, hm⟩ := cell_of_shapedOpen_int (zero := #[.int .i64 0]) (t := 3) hsh (g := 4) (of_decide_eq_true (by kernel_rfl)) (by kernel_rfl) rfl (by kernel_rfl) (by kernel_rfl) Tryz.underlying3
  exact contract_ok (Γ := (ΓR mx)) (hPR (mx := mx)) (by kernel_rfl) (by kernel_rfl) (by kernel_rfl) (tb := 4) Tryz.func3 (by kernel_rfl) (by kernel_rfl) (by kernel_rfl) (by kernel_rfl) (by kernel_rfl) (s := Rows.rulesSoonSpec) rfl
    (fun ds hd => by
      have hd : ds.length = 2 := hd
      match ds, hd with
      | [_, _], _ => rfl)
    (fun ys h hf hb => lawD mx ys h hf hb) W (globs_ok mx hL hm) base args ds gs before hval hW hk
theorem laid_met (os : Os) : laidMet Tryz.prog Rows.rulesSoonUptoRow.laid ((World.laidAll Tryz.prog os Rows.rulesSoonUptoRow.laid).forCall (fun _ _ => 0) ⟨#[], #[.slice none 0 0, .agg #[.string .empty, .slice none 0 0]], []⟩).memory :=
  laidMet_laidAll #[.slice none 0 0, .agg #[.string .empty, .slice none 0 0]] (by kernel_rfl) (by kernel_rfl)
theorem reads (os : Os) {H : Type} (enc : TypeId × Value → H) : ∃ places, DataW.whole enc Tryz.prog ((World.laidAll Tryz.prog os Rows.rulesSoonUptoRow.laid).forCall (fun _ _ => 0) ⟨#[], #[.slice none 0 0, .agg #[.string .empty, .slice none 0 0]], []⟩).memory Tryz.f3.params.toList Rows.rulesSoonSpec.vars false (#[.slice none 0 0, .agg #[.string .empty, .slice none 0 0]] : Array Value).toList 8 = some ([.nil, .agg [.lit (.string []), .nil]], [], places) :=
  ⟨[], by kernel_rfl⟩
theorem lifted (os : Os) (started : os.Started) (H : Type) (enc : TypeId × Value → H) (F : Stop.Interp) :
    ReturnsInHanded {} Tryz.checked os 3 .any ((Rows.OpenSpec.upto Rows.rulesSoonSpec).preRow enc Tryz.prog Tryz.f3 Rows.rulesSoonUptoRow.domain false Rows.rulesSoonUptoRow.laid) (((Rows.OpenSpec.upto Rows.rulesSoonSpec).at F).post enc Tryz.prog Tryz.f3 false true false false) := by
  obtain ⟨places, hx⟩ := reads os enc
  refine returnsInHanded_of_row (C := Tryz.checked) (s := Rows.OpenSpec.upto Rows.rulesSoonSpec) ownK started (by kernel_rfl) Tryz.func3
    (witness_row_atRef (enc := enc) (C := Tryz.checked) false (World.laidAll Tryz.prog os Rows.rulesSoonUptoRow.laid) #[.slice none 0 0, .agg #[.string .empty, .slice none 0 0]] (World.laidAll_os _ _ _) (by kernel_rfl) (by kernel_rfl) (by kernel_rfl)
      (OpenSpec.preRow_of_cond 8 hx (by kernel_rfl) (fun k hk => by cases hk; kernel_rfl) (by kernel_rfl) (laid_met os))) ?_
  intro W base args ds gs before hval hW h1 h2 h3 hL h5 h6
  first
    | exact contract H enc W base args ds gs before hval hW hL h5 (h1 _ rfl)
    | exact contract H enc W base args ds gs before hval hW hL h5 (h2 _ rfl)
    | exact contract H enc W base args ds gs before hval hW hL h5 (h3 _ rfl)
theorem said : Rows.RulesSoonUptoSaid :=
  OpenClaim.holds_of_cond 3 Tryz.f3 rfl rfl rfl rfl rfl rfl rfl ⟨rfl, rfl, rfl, rfl, rfl⟩ rfl rfl rfl rfl rfl (by kernel_rfl) Tryz.func3 (by kernel_rfl)
    (of_decide_eq_true (by kernel_rfl)) (by unfold Func.isWrapper; first | (rw [if_pos (by decide +kernel)]; kernel_rfl) | (rw [if_neg (by decide +kernel)]; exact ⟨rfl, rfl⟩))
    (fun os started H enc _ F => by rw [OpenClaim.pre_eq_preRow]; exact lifted os started H enc F)
theorem stand : ∀ t ∈ ([22, 25] : List TypeId), Tryz.prog.wantsStandIn t = false := by
  intro t ht
  simp only [List.mem_cons, List.not_mem_nil, or_false] at ht
  rcases ht with rfl | rfl <;> exact (by kernel_rfl)
theorem plain (f : FuncId) (fn : Func) (hf : Tryz.pinned.checked.prog.funcNamed "chartulary/chartularylaw22.RulesSoon" = some f) (hfn : Tryz.pinned.checked.prog.funcs[f]? = some fn) :
    true = Tryz.pinned.checked.prog.looks [] ∧ ∀ (j : Nat) t, fn.params[j]? = some t → Tryz.pinned.checked.prog.wantsStandIn t = false := by
  obtain rfl : f = 3 := Option.some.inj ((show Tryz.prog.funcNamed "chartulary/chartularylaw22.RulesSoon" = some 3 by kernel_rfl).symm.trans hf) |>.symm
  obtain rfl : fn = Tryz.f3 := (Option.some.inj (Tryz.func3.symm.trans hfn)).symm
  refine ⟨by kernel_rfl, fun j t ht => ?_⟩
  rw [Tryz.params3] at ht
  exact stand t (by simpa using Array.mem_of_getElem? ht)
/-- the card -/
theorem card : Rows.RulesSoonUptoCardSaid :=
  Claim7.holds_tied_plain_at .later [] _ _ _ _ said (fun _ h => by cases h) (by kernel_rfl) (fun _ h => by cases h) rulesSoonUpto_row_tie rfl ⟨rfl, rfl⟩ (by kernel_rfl) rfl plain (by kernel_rfl)
#print axioms card
end Go.Proofs.YtjbemleloffafaaGreatDoor
