/- ListFinds, for every input, is true: chartularylaw23.ListFinds, where the arguments are of bulk at most 1048576. -/
import Derived.Test.YtapaenfafjmljaaBf
import Derived.Deep.DeepHandedRow
import Derived.Deep.DeepWitnessRowRef
import Derived.Lay
import Derived.WalkKit
import Derived.ProofKit
import Derived.OpenShut
import Derived.Shelf.Vars
namespace Go.Proofs.Ytapaenfafjmljaa
open Go Go.ChangeShapes Go.WideShapes Go.ChangeAt Go.RowKit
open V
set_option maxRecDepth 100000
set_option linter.unusedVariables false
set_option linter.unusedSimpArgs false

theorem has_str {P : Program} {y : D} {t : TypeId} {w : World} {S : Addr → Prop} {vs : List Value} (ht : und P t = some .string) (h : RepT P w S y t vs) : ∃ l, y = .str l := by
  cases y <;> simp only [RepT] at h
  case str l => exact ⟨l, rfl⟩
  case int k n => rw [ht] at h; simp at h
  case bool b => rw [ht] at h; simp at h
  case slice c xs => obtain ⟨e, a, cap, h, _⟩ := h; rw [ht] at h; simp at h
  case agg fs =>
    rcases h with ⟨flds, h, _⟩ | ⟨n, e, h, _⟩ <;> (rw [ht] at h; simp at h)
theorem has_int {P : Program} {y : D} {t : TypeId} {k : IntKind} {w : World} {S : Addr → Prop} {vs : List Value} (ht : und P t = some (.int k)) (h : RepT P w S y t vs) (hf : fineD y) : ∃ n, y = .int k n ∧ k.min ≤ n ∧ n ≤ k.max := by
  cases y <;> simp only [RepT] at h
  case int k' n =>
    rw [ht] at h
    obtain ⟨h, _⟩ := h
    cases h
    simp only [fineD] at hf
    exact ⟨n, rfl, hf.1, hf.2⟩
  case str l => rw [ht] at h; simp at h
  case bool b => rw [ht] at h; simp at h
  case slice c xs => obtain ⟨e, a, cap, h, _⟩ := h; rw [ht] at h; simp at h
  case agg fs =>
    rcases h with ⟨flds, h, _⟩ | ⟨n, e, h, _⟩ <;> (rw [ht] at h; simp at h)
theorem has_bool {P : Program} {y : D} {t : TypeId} {w : World} {S : Addr → Prop} {vs : List Value} (ht : und P t = some .bool) (h : RepT P w S y t vs) : ∃ b, y = .bool b := by
  cases y <;> simp only [RepT] at h
  case bool b => exact ⟨b, rfl⟩
  case int k n => rw [ht] at h; simp at h
  case str l => rw [ht] at h; simp at h
  case slice c xs => obtain ⟨e, a, cap, h, _⟩ := h; rw [ht] at h; simp at h
  case agg fs =>
    rcases h with ⟨flds, h, _⟩ | ⟨n, e, h, _⟩ <;> (rw [ht] at h; simp at h)
theorem fs_cons {P : Program} {w : World} {S : Addr → Prop} {ys : List D} {t : TypeId} {ts : List TypeId} {vs : List Value} (h : RepFs P w S ys (t :: ts) vs) : ∃ y r v1 v2, ys = y :: r ∧ RepT P w S y t v1 ∧ RepFs P w S r ts v2 := by
  cases ys with
  | nil => simp [RepFs] at h
  | cons y r =>
    simp only [RepFs] at h
    obtain ⟨t', ts', v1, v2, h1, _, h3, h4⟩ := h
    cases h1
    exact ⟨y, r, v1, v2, rfl, h3, h4⟩
theorem fs_nil {P : Program} {w : World} {S : Addr → Prop} {ys : List D} {vs : List Value} (h : RepFs P w S ys [] vs) : ys = [] := by
  cases ys with
  | nil => rfl
  | cons y r => simp only [RepFs] at h; obtain ⟨t', ts', v1, v2, h1, _⟩ := h; cases h1
theorem has_slice {P : Program} {y : D} {t e : TypeId} {w : World} {S : Addr → Prop} {vs : List Value} (ht : und P t = some (.slice e)) (h : RepT P w S y t vs) (hf : fineD y) : ∃ c l, y = .slice c l ∧ fineL l ∧ (l = [] ∨ ∃ b o, RepRow P w S l e b o) := by
  cases y <;> simp only [RepT] at h
  case slice c xs =>
    obtain ⟨e', a, cap, h1, _, _, h2⟩ := h
    rw [ht] at h1
    cases h1
    simp only [fineD] at hf
    refine ⟨c, xs, rfl, hf.2.2, ?_⟩
    rcases h2 with h2 | ⟨b, o, _, h2⟩
    · exact .inl h2
    · exact .inr ⟨b, o, h2⟩
  case int k n => rw [ht] at h; simp at h
  case str l => rw [ht] at h; simp at h
  case bool b => rw [ht] at h; simp at h
  case agg fs =>
    rcases h with ⟨flds, h, _⟩ | ⟨n, e, h, _⟩ <;> (rw [ht] at h; simp at h)
theorem has_struct {P : Program} {y : D} {t : TypeId} {ts : List TypeId} {w : World} {S : Addr → Prop} {vs : List Value} (ht : (match und P t with | some (.struct fl) => some (fl.toList.map (·.type)) | _ => none) = some ts) (h : RepT P w S y t vs) (hf : fineD y) : ∃ fs, y = .agg fs ∧ fineL fs ∧ RepFs P w S fs ts vs := by
  cases y <;> simp only [RepT] at h
  case agg fs =>
    simp only [fineD] at hf
    rcases h with ⟨flds, h, h2⟩ | ⟨n, e, h, _⟩
    · rw [h] at ht
      cases ht
      exact ⟨fs, rfl, hf, h2⟩
    · rw [h] at ht; simp at ht
  case int k n => rw [h.1] at ht; simp at ht
  case str l => rw [h.1] at ht; simp at ht
  case bool b => rw [h.1] at ht; simp at ht
  case slice c xs => obtain ⟨e, a, cap, h, _⟩ := h; rw [h] at ht; simp at ht
theorem row_all {P : Program} {w : World} {S : Addr → Prop} {e : TypeId} {q : D → Bool} (hq : ∀ y vs, RepT P w S y e vs → fineD y → q y = true) : ∀ (l : List D) (b o : Nat), fineL l → RepRow P w S l e b o → l.all q = true
  | [], _, _, _, _ => rfl
  | y :: r, b, o, hf, h => by
    simp only [RepRow] at h
    simp only [fineL] at hf
    obtain ⟨vs, _, h1, h2⟩ := h
    rw [List.all_cons, hq y vs h1 hf.1, row_all hq r _ _ hf.2 h2]; rfl
theorem row_all' {P : Program} {w : World} {S : Addr → Prop} {e : TypeId} {q : D → Bool} {l : List D} (hq : ∀ y vs, RepT P w S y e vs → fineD y → q y = true) (hf : fineL l) (h : l = [] ∨ ∃ b o, RepRow P w S l e b o) : l.all q = true := by
  rcases h with rfl | ⟨b, o, h⟩
  · rfl
  · exact row_all hq l b o hf h
theorem bulkL_len : ∀ l : List D, l.length ≤ bulkL l
  | [] => Nat.le_refl _
  | y :: r => by
    have := bulkL_len r
    have h1 : 1 ≤ bulkD y := by cases y <;> simp only [bulkD] <;> omega
    simp only [bulkL, List.length_cons]; omega
theorem arr_u8 {mx : Int} {w : World} {S : Addr → Prop} : ∀ (n : Nat) (fs : List D) (vs : List Value), RepFs (Γ mx).P w S fs (List.replicate n 5) vs → fineL fs → fs.length = n ∧ fs.all isU8 = true
  | 0, fs, vs, h, _ => by
    obtain rfl := fs_nil h
    exact ⟨rfl, rfl⟩
  | n + 1, fs, vs, h, hf => by
    rw [List.replicate_succ] at h
    obtain ⟨y, r, _, _, rfl, h1, h2⟩ := fs_cons h
    simp only [fineL] at hf
    obtain ⟨x, rfl, _⟩ := has_int (k := .u8) (by kernel_rfl) h1 hf.1
    obtain ⟨k1, k2⟩ := arr_u8 n r _ h2 hf.2
    exact ⟨by rw [List.length_cons, k1], by rw [List.all_cons, k2]; rfl⟩
theorem has_dg {mx : Int} {y : D} {w : World} {S : Addr → Prop} {vs : List Value} (h : RepT (Γ mx).P w S y 48 vs) (hf : fineD y) : ∃ fs, y = .agg fs ∧ dgC fs = true := by
  have ht : und (Γ mx).P 48 = some (.array 32 5) := by kernel_rfl
  cases y <;> simp only [RepT] at h
  case agg fs =>
    rcases h with ⟨flds, h, _⟩ | ⟨n, e, h, _, h2⟩
    · rw [ht] at h; simp at h
    · rw [ht] at h
      cases h
      simp only [fineD] at hf
      obtain ⟨k1, k2⟩ := arr_u8 32 fs _ h2 hf
      refine ⟨fs, rfl, ?_⟩
      unfold dgC
      rw [k1, k2]; rfl
  case str l => rw [ht] at h; simp at h
  case int k n => rw [ht] at h; simp at h
  case bool b => rw [ht] at h; simp at h
  case slice c xs => obtain ⟨e, a, cap, h, _⟩ := h; rw [ht] at h; simp at h
theorem isT_of {mx : Int} {y : D} {w : World} {S : Addr → Prop} {vs : List Value} (h : RepT (Γ mx).P w S y 83 vs) (hf : fineD y) : isT y = true := by
  obtain ⟨fs, rfl, gf, h⟩ := has_struct (ts := [9, 9]) (by kernel_rfl) h hf
  obtain ⟨y1, r1, _, _, rfl, h1, q1⟩ := fs_cons h
  obtain ⟨y2, r2, _, _, rfl, h2, q2⟩ := fs_cons q1
  obtain rfl := fs_nil q2
  obtain ⟨x1, rfl⟩ := has_str (by kernel_rfl) h1
  obtain ⟨x2, rfl⟩ := has_str (by kernel_rfl) h2
  rfl
theorem sh_bulk : ∀ {l : List D}, l.all isT = true → bulkL l ≤ 4194304 → l.all shT = true
  | [], _, _ => rfl
  | d :: r, h, hb => by
    have h : isT d = true ∧ r.all isT = true := by simpa using h
    obtain ⟨a, b, rfl⟩ := isT_ex h.1
    simp only [bulkL, bulkD] at hb
    have e : shT (.agg [.str a, .str b]) = (short a && short b) := rfl
    rw [List.all_cons, e, short_of (by omega), short_of (by omega), sh_bulk h.2 (by omega)]; rfl
theorem tC_bulk {l : List D} (h : l.all isT = true) (hb : bulkL l ≤ 1048576) : tC l = true := tC_of (by have := bulkL_len l; omega) (sh_bulk h (by omega))
def isR : D → Bool
  | .agg [.str _, .slice _ t, .int .i64 _, .int .i64 _, .bool _] => t.all isT
  | _ => false
theorem isR_eq {d : D} (h : isR d = true) : ∃ p c t a b m, d = .agg [.str p, .slice c t, .int .i64 a, .int .i64 b, .bool m] ∧ t.all isT = true := by
  unfold isR at h
  split at h
  · exact ⟨_, _, _, _, _, _, rfl, h⟩
  · exact absurd h (by simp)
theorem isR_of {mx : Int} {y : D} {w : World} {S : Addr → Prop} {vs : List Value} (h : RepT (Γ mx).P w S y 101 vs) (hf : fineD y) : isR y = true := by
  obtain ⟨fs, rfl, gf, h⟩ := has_struct (ts := [9, 51, 3, 3, 4]) (by kernel_rfl) h hf
  obtain ⟨y1, r1, _, _, rfl, h1, q1⟩ := fs_cons h
  obtain ⟨y2, r2, _, _, rfl, h2, q2⟩ := fs_cons q1
  obtain ⟨y3, r3, _, _, rfl, h3, q3⟩ := fs_cons q2
  obtain ⟨y4, r4, _, _, rfl, h4, q4⟩ := fs_cons q3
  obtain ⟨y5, r5, _, _, rfl, h5, q5⟩ := fs_cons q4
  obtain rfl := fs_nil q5
  simp only [fineL] at gf
  obtain ⟨x1, rfl⟩ := has_str (by kernel_rfl) h1
  obtain ⟨c2, x2, rfl, g2, k2⟩ := has_slice (by kernel_rfl) h2 gf.2.1
  obtain ⟨x3, rfl, _⟩ := has_int (k := .i64) (by kernel_rfl) h3 gf.2.2.1
  obtain ⟨x4, rfl, _⟩ := has_int (k := .i64) (by kernel_rfl) h4 gf.2.2.2.1
  obtain ⟨x5, rfl⟩ := has_bool (by kernel_rfl) h5
  exact row_all' (e := 83) (fun y vs h hf => isT_of (mx := mx) h hf) g2 k2
def isV (d : D) : Bool := match vOf d with | some v => v.tg.all isT && (dgC v.dg && decide (0 ≤ v.id)) | none => false
theorem isV_eq {d : D} (h : isV d = true) : ∃ v, d = vD v ∧ v.tg.all isT = true ∧ (dgC v.dg && decide (0 ≤ v.id)) = true := by
  unfold isV at h
  cases hv : vOf d with
  | none => rw [hv] at h; exact absurd h (by simp)
  | some v => rw [hv] at h; exact ⟨v, vOf_eq hv, Bool.and_eq_true_iff.1 h⟩
theorem isV_of {mx : Int} {y : D} {w : World} {S : Addr → Prop} {vs : List Value} (h : RepT (Γ mx).P w S y 53 vs) (hf : fineD y) : isV y = true := by
  obtain ⟨fs, rfl, gf, h⟩ := has_struct (ts := [22, 4, 3, 22, 48, 2, 50, 51]) (by kernel_rfl) h hf
  obtain ⟨y1, r1, _, _, rfl, h1, q1⟩ := fs_cons h
  obtain ⟨y2, r2, _, _, rfl, h2, q2⟩ := fs_cons q1
  obtain ⟨y3, r3, _, _, rfl, h3, q3⟩ := fs_cons q2
  obtain ⟨y4, r4, _, _, rfl, h4, q4⟩ := fs_cons q3
  obtain ⟨y5, r5, _, _, rfl, h5, q5⟩ := fs_cons q4
  obtain ⟨y6, r6, _, _, rfl, h6, q6⟩ := fs_cons q5
  obtain ⟨y7, r7, _, _, rfl, h7, q7⟩ := fs_cons q6
  obtain ⟨y8, r8, _, _, rfl, h8, q8⟩ := fs_cons q7
  obtain rfl := fs_nil q8
  simp only [fineL] at gf
  obtain ⟨g1, g2, g3, g4, g5, g6, g7, g8, _⟩ := gf
  obtain ⟨x1, rfl, n1⟩ := has_int (k := .u64) (by kernel_rfl) h1 g1
  obtain ⟨x2, rfl⟩ := has_bool (by kernel_rfl) h2
  obtain ⟨x3, rfl, _⟩ := has_int (k := .i64) (by kernel_rfl) h3 g3
  obtain ⟨x4, rfl, _⟩ := has_int (k := .u64) (by kernel_rfl) h4 g4
  obtain ⟨x5, rfl, n5⟩ := has_dg h5 g5
  obtain ⟨x6, rfl, _⟩ := has_int (k := .i64) (by kernel_rfl) h6 g6
  obtain ⟨ls, rfl, gl, hl⟩ := has_struct (ts := [3, 2, 4]) (by kernel_rfl) h7 g7
  obtain ⟨z1, s1, _, _, rfl, t1, p1⟩ := fs_cons hl
  obtain ⟨z2, s2, _, _, rfl, t2, p2⟩ := fs_cons p1
  obtain ⟨z3, s3, _, _, rfl, t3, p3⟩ := fs_cons p2
  obtain rfl := fs_nil p3
  simp only [fineL] at gl
  obtain ⟨w1, rfl, _⟩ := has_int (k := .i64) (by kernel_rfl) t1 gl.1
  obtain ⟨w2, rfl, _⟩ := has_int (k := .i64) (by kernel_rfl) t2 gl.2.1
  obtain ⟨w3, rfl⟩ := has_bool (by kernel_rfl) t3
  obtain ⟨c8, x8, rfl, k8, l8⟩ := has_slice (by kernel_rfl) h8 g8
  have ht := row_all' (e := 83) (fun y vs h hf => isT_of (mx := mx) h hf) k8 l8
  show (x8.all isT && (dgC x5 && decide (0 ≤ x1))) = true
  rw [ht, n5, decide_eq_true (Int.le_trans (by decide) n1.1)]; rfl
def isO : D → Bool
  | .agg [.str _, .slice _ l] => l.all isV
  | _ => false
theorem isO_eq {d : D} (h : isO d = true) : ∃ k c l, d = .agg [.str k, .slice c l] := by
  unfold isO at h
  split at h
  · exact ⟨_, _, _, rfl⟩
  · exact absurd h (by simp)
theorem isO_of {mx : Int} {y : D} {w : World} {S : Addr → Prop} {vs : List Value} (h : RepT (Γ mx).P w S y 60 vs) (hf : fineD y) : isO y = true := by
  obtain ⟨fs, rfl, gf, h⟩ := has_struct (ts := [9, 58]) (by kernel_rfl) h hf
  obtain ⟨y1, r1, _, _, rfl, h1, q1⟩ := fs_cons h
  obtain ⟨y2, r2, _, _, rfl, h2, q2⟩ := fs_cons q1
  obtain rfl := fs_nil q2
  simp only [fineL] at gf
  obtain ⟨x1, rfl⟩ := has_str (by kernel_rfl) h1
  obtain ⟨c2, x2, rfl, g2, k2⟩ := has_slice (by kernel_rfl) h2 gf.2.1
  exact row_all' (e := 53) (fun y vs h hf => isV_of (mx := mx) h hf) g2 k2
theorem rs_all : ∀ {l : List D}, l.all isR = true → bulkL l ≤ 1048576 → l.all rC = true
  | [], _, _ => rfl
  | d :: r, h, hb => by
    have h : isR d = true ∧ r.all isR = true := by simpa using h
    obtain ⟨p, c, t, a, b, m, rfl, ht⟩ := isR_eq h.1
    simp only [bulkL, bulkD] at hb
    have e : rC (.agg [.str p, .slice c t, .int .i64 a, .int .i64 b, .bool m]) = (short p && tC t) := rfl
    rw [List.all_cons, e, short_of (by omega), tC_bulk ht (by omega), rs_all h.2 (by omega)]; rfl
theorem vs_all : ∀ {l : List D}, l.all isV = true → bulkL l ≤ 1048576 → l.all vC = true
  | [], _, _ => rfl
  | d :: r, h, hb => by
    have h : isV d = true ∧ r.all isV = true := by simpa using h
    obtain ⟨v, rfl, ht, hd⟩ := isV_eq h.1
    simp only [vD, bulkL, bulkD] at hb
    have e : vC (vD v) = (tC v.tg && (dgC v.dg && decide (0 ≤ v.id))) := rfl
    rw [List.all_cons, e, tC_bulk ht (by omega), hd, vs_all h.2 (by omega)]; rfl
theorem rs_bulk {l : List D} (h : l.all isR = true) (hb : bulkL l ≤ 1048576) : rsC l = true := by
  have := bulkL_len l
  unfold rsC
  rw [decide_eq_true (by omega), rs_all h hb]; rfl
theorem o_bulk {k : List UInt8} {c : Cp} {l : List D} (h : isO (.agg [.str k, .slice c l]) = true) (hk : k.length ≤ 1048576) (hb : bulkL l ≤ 1048576) : oC (.agg [.str k, .slice c l]) = true := by
  have h : l.all isV = true := h
  have := bulkL_len l
  have e : oC (.agg [.str k, .slice c l]) = (short k && vsC l) := rfl
  rw [e, short_of (by omega)]
  unfold vsC
  rw [decide_eq_true (by omega), vs_all h hb]; rfl
theorem isG_of {mx : Int} {y : D} {w : World} {S : Addr → Prop} {vs : List Value} (h : RepT (Γ mx).P w S y 104 vs) (hf : fineD y) : isG y = true := by
  obtain ⟨fs, rfl, gf, h⟩ := has_struct (ts := [4, 9, 9, 9]) (by kernel_rfl) h hf
  obtain ⟨y1, r1, _, _, rfl, h1, q1⟩ := fs_cons h
  obtain ⟨y2, r2, _, _, rfl, h2, q2⟩ := fs_cons q1
  obtain ⟨y3, r3, _, _, rfl, h3, q3⟩ := fs_cons q2
  obtain ⟨y4, r4, _, _, rfl, h4, q4⟩ := fs_cons q3
  obtain rfl := fs_nil q4
  simp only [fineL] at gf
  obtain ⟨g1, g2, g3, g4, _⟩ := gf
  obtain ⟨x1, rfl⟩ := has_bool (by kernel_rfl) h1
  obtain ⟨x2, rfl⟩ := has_str (by kernel_rfl) h2
  obtain ⟨x3, rfl⟩ := has_str (by kernel_rfl) h3
  obtain ⟨x4, rfl⟩ := has_str (by kernel_rfl) h4
  rfl
theorem isPt_of {mx : Int} {y : D} {w : World} {S : Addr → Prop} {vs : List Value} (h : RepT (Γ mx).P w S y 108 vs) (hf : fineD y) : isPt y = true := by
  obtain ⟨fs, rfl, gf, h⟩ := has_struct (ts := [3, 3, 22, 48]) (by kernel_rfl) h hf
  obtain ⟨y1, r1, _, _, rfl, h1, q1⟩ := fs_cons h
  obtain ⟨y2, r2, _, _, rfl, h2, q2⟩ := fs_cons q1
  obtain ⟨y3, r3, _, _, rfl, h3, q3⟩ := fs_cons q2
  obtain ⟨y4, r4, _, _, rfl, h4, q4⟩ := fs_cons q3
  obtain rfl := fs_nil q4
  simp only [fineL] at gf
  obtain ⟨g1, g2, g3, g4, _⟩ := gf
  obtain ⟨x1, rfl, n1⟩ := has_int (k := .i64) (by kernel_rfl) h1 g1
  obtain ⟨x2, rfl, n2⟩ := has_int (k := .i64) (by kernel_rfl) h2 g2
  obtain ⟨x3, rfl, n3⟩ := has_int (k := .u64) (by kernel_rfl) h3 g3
  obtain ⟨x4, rfl, n4⟩ := has_dg h4 g4
  rfl
def isUp : D → Bool
  | .agg [.int .u64 _, .str _, .slice _ t, .slice _ p] => t.all isT && p.all isPt
  | _ => false
theorem isUp_of {mx : Int} {y : D} {w : World} {S : Addr → Prop} {vs : List Value} (h : RepT (Γ mx).P w S y 94 vs) (hf : fineD y) : isUp y = true := by
  obtain ⟨fs, rfl, gf, h⟩ := has_struct (ts := [22, 9, 51, 92]) (by kernel_rfl) h hf
  obtain ⟨y1, r1, _, _, rfl, h1, q1⟩ := fs_cons h
  obtain ⟨y2, r2, _, _, rfl, h2, q2⟩ := fs_cons q1
  obtain ⟨y3, r3, _, _, rfl, h3, q3⟩ := fs_cons q2
  obtain ⟨y4, r4, _, _, rfl, h4, q4⟩ := fs_cons q3
  obtain rfl := fs_nil q4
  simp only [fineL] at gf
  obtain ⟨g1, g2, g3, g4, _⟩ := gf
  obtain ⟨x1, rfl, n1⟩ := has_int (k := .u64) (by kernel_rfl) h1 g1
  obtain ⟨x2, rfl⟩ := has_str (by kernel_rfl) h2
  obtain ⟨c3, x3, rfl, k3, l3⟩ := has_slice (by kernel_rfl) h3 g3
  obtain ⟨c4, x4, rfl, k4, l4⟩ := has_slice (by kernel_rfl) h4 g4
  have e1 := row_all' (e := 83) (fun y vs h hf => isT_of (mx := mx) h hf) k3 l3
  have e2 := row_all' (e := 108) (fun y vs h hf => isPt_of (mx := mx) h hf) k4 l4
  show (x3.all isT && x4.all isPt) = true
  rw [e1, e2]; rfl
def isBk : D → Bool
  | .agg [.str _, .agg [.int .i64 _, .int .i64 _], .slice _ rs, .slice _ gs, .slice _ os, .slice _ us] => rs.all isR && (gs.all isG && (os.all isO && us.all isUp))
  | _ => false
theorem isBk_of {mx : Int} {y : D} {w : World} {S : Addr → Prop} {vs : List Value} (h : RepT (Γ mx).P w S y 33 vs) (hf : fineD y) : isBk y = true := by
  obtain ⟨fs, rfl, gf, h⟩ := has_struct (ts := [9, 27, 28, 29, 30, 31]) (by kernel_rfl) h hf
  obtain ⟨y1, r1, _, _, rfl, h1, q1⟩ := fs_cons h
  obtain ⟨y2, r2, _, _, rfl, h2, q2⟩ := fs_cons q1
  obtain ⟨y3, r3, _, _, rfl, h3, q3⟩ := fs_cons q2
  obtain ⟨y4, r4, _, _, rfl, h4, q4⟩ := fs_cons q3
  obtain ⟨y5, r5, _, _, rfl, h5, q5⟩ := fs_cons q4
  obtain ⟨y6, r6, _, _, rfl, h6, q6⟩ := fs_cons q5
  obtain rfl := fs_nil q6
  simp only [fineL] at gf
  obtain ⟨g1, g2, g3, g4, g5, g6, _⟩ := gf
  obtain ⟨x1, rfl⟩ := has_str (by kernel_rfl) h1
  obtain ⟨ls, rfl, gl, hl⟩ := has_struct (ts := [3, 3]) (by kernel_rfl) h2 g2
  obtain ⟨z1, s1, _, _, rfl, t1, p1⟩ := fs_cons hl
  obtain ⟨z2, s2, _, _, rfl, t2, p2⟩ := fs_cons p1
  obtain rfl := fs_nil p2
  simp only [fineL] at gl
  obtain ⟨w1, rfl, _⟩ := has_int (k := .i64) (by kernel_rfl) t1 gl.1
  obtain ⟨w2, rfl, _⟩ := has_int (k := .i64) (by kernel_rfl) t2 gl.2.1
  obtain ⟨c3, x3, rfl, k3, l3⟩ := has_slice (by kernel_rfl) h3 g3
  obtain ⟨c4, x4, rfl, k4, l4⟩ := has_slice (by kernel_rfl) h4 g4
  obtain ⟨c5, x5, rfl, k5, l5⟩ := has_slice (by kernel_rfl) h5 g5
  obtain ⟨c6, x6, rfl, k6, l6⟩ := has_slice (by kernel_rfl) h6 g6
  have e1 := row_all' (e := 101) (fun y vs h hf => isR_of (mx := mx) h hf) k3 l3
  have e2 := row_all' (e := 104) (fun y vs h hf => isG_of (mx := mx) h hf) k4 l4
  have e3 := row_all' (e := 60) (fun y vs h hf => isO_of (mx := mx) h hf) k5 l5
  have e4 := row_all' (e := 94) (fun y vs h hf => isUp_of (mx := mx) h hf) k6 l6
  show (x3.all isR && (x4.all isG && (x5.all isO && x6.all isUp))) = true
  rw [e1, e2, e3, e4]; rfl
def isStt : D → Bool
  | .agg [.int .i64 _, .int .u64 _, .int .u64 _, .slice _ l] => l.all isBk
  | _ => false
theorem isStt_eq {d : D} (h : isStt d = true) : ∃ m n b c l, d = .agg [.int .i64 m, .int .u64 n, .int .u64 b, .slice c l] := by
  unfold isStt at h
  split at h
  · exact ⟨_, _, _, _, _, rfl⟩
  · exact absurd h (by simp)
theorem isStt_of {mx : Int} {y : D} {w : World} {S : Addr → Prop} {vs : List Value} (h : RepT (Γ mx).P w S y 25 vs) (hf : fineD y) : isStt y = true := by
  obtain ⟨fs, rfl, gf, h⟩ := has_struct (ts := [2, 22, 22, 23]) (by kernel_rfl) h hf
  obtain ⟨y1, r1, _, _, rfl, h1, q1⟩ := fs_cons h
  obtain ⟨y2, r2, _, _, rfl, h2, q2⟩ := fs_cons q1
  obtain ⟨y3, r3, _, _, rfl, h3, q3⟩ := fs_cons q2
  obtain ⟨y4, r4, _, _, rfl, h4, q4⟩ := fs_cons q3
  obtain rfl := fs_nil q4
  simp only [fineL] at gf
  obtain ⟨g1, g2, g3, g4, _⟩ := gf
  obtain ⟨x1, rfl, n1⟩ := has_int (k := .i64) (by kernel_rfl) h1 g1
  obtain ⟨x2, rfl, n2⟩ := has_int (k := .u64) (by kernel_rfl) h2 g2
  obtain ⟨x3, rfl, n3⟩ := has_int (k := .u64) (by kernel_rfl) h3 g3
  obtain ⟨c4, x4, rfl, k4, l4⟩ := has_slice (by kernel_rfl) h4 g4
  exact row_all' (e := 33) (fun y vs h hf => isBk_of (mx := mx) h hf) k4 l4
def isSpt (d : D) : Bool := isSp d
theorem isSpt_eq {d : D} (h : isSpt d = true) : ∃ a b i, d = .agg [.str a, .str b, .int .u64 i] := isSp_ex h
theorem isSpt_of {mx : Int} {y : D} {w : World} {S : Addr → Prop} {vs : List Value} (h : RepT (Γ mx).P w S y 44 vs) (hf : fineD y) : isSpt y = true := by
  obtain ⟨fs, rfl, gf, h⟩ := has_struct (ts := [9, 9, 22]) (by kernel_rfl) h hf
  obtain ⟨y1, r1, _, _, rfl, h1, q1⟩ := fs_cons h
  obtain ⟨y2, r2, _, _, rfl, h2, q2⟩ := fs_cons q1
  obtain ⟨y3, r3, _, _, rfl, h3, q3⟩ := fs_cons q2
  obtain rfl := fs_nil q3
  simp only [fineL] at gf
  obtain ⟨g1, g2, g3, _⟩ := gf
  obtain ⟨x1, rfl⟩ := has_str (by kernel_rfl) h1
  obtain ⟨x2, rfl⟩ := has_str (by kernel_rfl) h2
  obtain ⟨x3, rfl, n3⟩ := has_int (k := .u64) (by kernel_rfl) h3 g3
  rfl
theorem os_all : ∀ {l : List D}, l.all isO = true → bulkL l ≤ 1048576 → l.all oC = true
  | [], _, _ => rfl
  | d :: r, h, hb => by
    have h : isO d = true ∧ r.all isO = true := by simpa using h
    obtain ⟨k, c, l, rfl⟩ := isO_eq h.1
    simp only [bulkL, bulkD] at hb
    rw [List.all_cons, o_bulk h.1 (by omega) (by omega), os_all h.2 (by omega)]; rfl
theorem isUp_eq {d : D} (h : isUp d = true) : ∃ i k c t c' p, d = .agg [.int .u64 i, .str k, .slice c t, .slice c' p] ∧ t.all isT = true ∧ p.all isPt = true := by
  unfold isUp at h
  split at h
  · simp only [Bool.and_eq_true] at h; exact ⟨_, _, _, _, _, _, rfl, h.1, h.2⟩
  · exact absurd h (by simp)
theorem us_all : ∀ {l : List D}, l.all isUp = true → bulkL l ≤ 1048576 → l.all uC = true
  | [], _, _ => rfl
  | d :: r, h, hb => by
    have h : isUp d = true ∧ r.all isUp = true := by simpa using h
    obtain ⟨i, k, c, t, c', p, rfl, h1, h2⟩ := isUp_eq h.1
    simp only [bulkL, bulkD] at hb
    have e : uC (.agg [.int .u64 i, .str k, .slice c t, .slice c' p]) = (short k && (tC t && p.all isPt)) := rfl
    rw [List.all_cons, e, short_of (by omega), tC_bulk h1 (by omega), h2, us_all h.2 (by omega)]; rfl
theorem isBk_eq {d : D} (h : isBk d = true) : ∃ nm md dy c1 rs c2 gs c3 os c4 us, d = .agg [.str nm, .agg [.int .i64 md, .int .i64 dy], .slice c1 rs, .slice c2 gs, .slice c3 os, .slice c4 us] ∧ rs.all isR = true ∧ gs.all isG = true ∧ os.all isO = true ∧ us.all isUp = true := by
  unfold isBk at h
  split at h
  · simp only [Bool.and_eq_true] at h; exact ⟨_, _, _, _, _, _, _, _, _, _, _, rfl, h.1, h.2.1, h.2.2.1, h.2.2.2⟩
  · exact absurd h (by simp)
theorem bks_all : ∀ {l : List D}, l.all isBk = true → bulkL l ≤ 1048576 → l.all bkC = true
  | [], _, _ => rfl
  | d :: r, h, hb => by
    have h : isBk d = true ∧ r.all isBk = true := by simpa using h
    obtain ⟨nm, md, dy, c1, rs, c2, gs, c3, os, c4, us, rfl, h1, h2, h3, h4⟩ := isBk_eq h.1
    simp only [bulkL, bulkD] at hb
    have l1 := bulkL_len gs
    have l2 := bulkL_len os
    have e : bkC (.agg [.str nm, .agg [.int .i64 md, .int .i64 dy], .slice c1 rs, .slice c2 gs, .slice c3 os, .slice c4 us]) = (short nm && (rsC rs && (allG gs && (os.all oC && (decide (os.length ≤ 8388608) && us.all uC))))) := rfl
    have eg : allG gs = true := by unfold allG; rw [decide_eq_true (by omega), h2]; rfl
    rw [List.all_cons, e, short_of (by omega), rs_bulk h1 (by omega), eg, os_all h3 (by omega), decide_eq_true (by omega), us_all h4 (by omega), bks_all h.2 (by omega)]; rfl
theorem st_bulk {m n b : Int} {c : Cp} {l : List D} (h : isStt (.agg [.int .i64 m, .int .u64 n, .int .u64 b, .slice c l]) = true) (hb : bulkL l ≤ 1048576) : stC (.agg [.int .i64 m, .int .u64 n, .int .u64 b, .slice c l]) = true := bks_all h hb
def isFil : D → Bool
  | .agg [.str _, .slice _ t, .int .i64 _, .int .i64 _, .int .i64 _, .int .i64 _, .bool _] => t.all isT
  | _ => false
theorem isFil_eq {d : D} (h : isFil d = true) : ∃ p c t a b e f g, d = .agg [.str p, .slice c t, .int .i64 a, .int .i64 b, .int .i64 e, .int .i64 f, .bool g] := by
  unfold isFil at h
  split at h
  · exact ⟨_, _, _, _, _, _, _, _, rfl⟩
  · exact absurd h (by simp)
theorem fil_bulk {p : List UInt8} {c : Cp} {t : List D} {a b e f : Int} {g : Bool} (h : isFil (.agg [.str p, .slice c t, .int .i64 a, .int .i64 b, .int .i64 e, .int .i64 f, .bool g]) = true) (hb : bulkL t ≤ 1048576) : fC (.agg [.str p, .slice c t, .int .i64 a, .int .i64 b, .int .i64 e, .int .i64 f, .bool g]) = true := tC_bulk h hb
theorem isFil_of {mx : Int} {y : D} {w : World} {S : Addr → Prop} {vs : List Value} (h : RepT (Γ mx).P w S y 63 vs) (hf : fineD y) : isFil y = true := by
  obtain ⟨fs, rfl, gf, h⟩ := has_struct (ts := [9, 51, 2, 2, 3, 3, 4]) (by kernel_rfl) h hf
  obtain ⟨y1, r1, _, _, rfl, h1, q1⟩ := fs_cons h
  obtain ⟨y2, r2, _, _, rfl, h2, q2⟩ := fs_cons q1
  obtain ⟨y3, r3, _, _, rfl, h3, q3⟩ := fs_cons q2
  obtain ⟨y4, r4, _, _, rfl, h4, q4⟩ := fs_cons q3
  obtain ⟨y5, r5, _, _, rfl, h5, q5⟩ := fs_cons q4
  obtain ⟨y6, r6, _, _, rfl, h6, q6⟩ := fs_cons q5
  obtain ⟨y7, r7, _, _, rfl, h7, q7⟩ := fs_cons q6
  obtain rfl := fs_nil q7
  simp only [fineL] at gf
  obtain ⟨g1, g2, g3, g4, g5, g6, g7, _⟩ := gf
  obtain ⟨x1, rfl⟩ := has_str (by kernel_rfl) h1
  obtain ⟨c2, x2, rfl, k2, l2⟩ := has_slice (by kernel_rfl) h2 g2
  obtain ⟨x3, rfl, n3⟩ := has_int (k := .i64) (by kernel_rfl) h3 g3
  obtain ⟨x4, rfl, n4⟩ := has_int (k := .i64) (by kernel_rfl) h4 g4
  obtain ⟨x5, rfl, n5⟩ := has_int (k := .i64) (by kernel_rfl) h5 g5
  obtain ⟨x6, rfl, n6⟩ := has_int (k := .i64) (by kernel_rfl) h6 g6
  obtain ⟨x7, rfl⟩ := has_bool (by kernel_rfl) h7
  exact row_all' (e := 83) (fun y vs h hf => isT_of (mx := mx) h hf) k2 l2
theorem lawD (mx : Int) (ys : List D) (h : HasL (Γ mx).P ys [25, 63, 44, 3]) (hf : fineL ys) (hb : bulkL ys ≤ 1048576) : Ret (Γ mx) 7 (argsOf (Γ mx).P [25, 63, 44, 3] ys) (.b true) := by
  obtain ⟨w, S, vs, h⟩ := h
  obtain ⟨y1, r1, _, _, rfl, h1, q1⟩ := fs_cons h
  simp only [fineL] at hf
  obtain ⟨g1, hf⟩ := hf
  have a1 : isStt y1 = true := isStt_of h1 g1
  obtain ⟨sm1, sn1, sb1, sc1, sl1, rfl⟩ := isStt_eq a1
  obtain ⟨y2, r2, _, _, rfl, h2, q2⟩ := fs_cons q1
  simp only [fineL] at hf
  obtain ⟨g2, hf⟩ := hf
  have a2 : isFil y2 = true := isFil_of h2 g2
  obtain ⟨fp2, fc2, ft2, fa2, fo2, fl2, fm2, fb2, rfl⟩ := isFil_eq a2
  obtain ⟨y3, r3, _, _, rfl, h3, q3⟩ := fs_cons q2
  simp only [fineL] at hf
  obtain ⟨g3, hf⟩ := hf
  have a3 : isSpt y3 = true := isSpt_of h3 g3
  obtain ⟨pa3, pk3, pi3, rfl⟩ := isSpt_eq a3
  obtain ⟨y4, r4, _, _, rfl, h4, q4⟩ := fs_cons q3
  simp only [fineL] at hf
  obtain ⟨g4, hf⟩ := hf
  obtain ⟨x4, rfl, f4⟩ := has_int (k := .i64) (by kernel_rfl) h4 g4
  obtain rfl := fs_nil q4
  have e1 : underId (Γ mx).P 25 = 24 := by kernel_rfl
  have e2 : underId (Γ mx).P 63 = 62 := by kernel_rfl
  have e3 : underId (Γ mx).P 44 = 43 := by kernel_rfl
  simp only [argsOf, fromD, e1, e2, e3]
  simp only [bulkL, bulkD] at hb
  exact ((law7 (.agg [.int .i64 sm1, .int .u64 sn1, .int .u64 sb1, .slice sc1 sl1]) (.agg [.str fp2, .slice fc2 ft2, .int .i64 fa2, .int .i64 fo2, .int .i64 fl2, .int .i64 fm2, .bool fb2]) (.agg [.str pa3, .str pk3, .int .u64 pi3]) x4 (st_bulk a1 (by omega)) (fil_bulk a2 (by omega)) rfl).ret (by kernel_rfl))

/-! ### the claim -/
theorem ownK : ownKnob Try.prog.godebug = none := by kernel_rfl
theorem globs_ok (mx : Int) {W : World} (h : laidMetH Try.prog Rows.listFindsUptoRow.laid W) (hm : W.cell? ⟨0, 0, none⟩ = some (.int .i64 mx)) : GlobOK (Γ mx) W (InW W) := by
  have h : laidMet Try.prog Rows.listFindsUptoRow.laid W := h
  refine ⟨?_, ?_⟩
  rotate_left
  · intro g hg
    cases hg
  intro g t x hg
  match g, hg with
  | 0, hg =>
    cases hg
    refine ⟨[.int .i64 mx], fun j v hj => ?_, ?_, fun fs hfs => by cases hfs⟩
    · match j, hj with
      | 0, hj => cases hj; exact ⟨hm, in_world hm⟩
      | j + 1, hj => exact absurd hj (by simp)
    · simp only [RepT]
      exact ⟨by kernel_rfl, trivial⟩
theorem contract (H : Type) (enc : TypeId × Value → H) (W : World) (base : Nat) (args : Array Value) (ds gs : List (DataW H)) (before : List MemPlace)
    (hval : ∀ (j : Nat) t v, Try.f7.params[j]? = some t → args[j]? = some v → Value.okWide Try.prog W .any base t v)
    (hW : DataW.Whole enc Try.prog Try.f7.params.toList Rows.listFindsSpec.vars false W args.toList ds gs before) (hL : laidMetH Try.prog Rows.listFindsUptoRow.laid W) (hsh : W.ShapedOpen Try.prog) (hk : Rows.uptoSmall H (ds ++ gs) = true) :
    Calls Try.prog 7 args W fun e W' => ∃ v, e = .returned v ∧ Rows.listFindsSpec.post enc Try.prog Try.f7 false true false false W args v W' := by
  obtain ⟨mx, hm⟩ := cell_of_shapedOpen_int (zero := #[.int .i64 0]) (t := 3) hsh (g := 0) (of_decide_eq_true (by kernel_rfl)) (by kernel_rfl) rfl (by kernel_rfl) (by kernel_rfl) Try.underlying3
  exact contract_ok (Γ := (Γ mx)) hP (by kernel_rfl) (by kernel_rfl) (by kernel_rfl) (tb := 4) Try.func7 (by kernel_rfl) (by kernel_rfl) (by kernel_rfl) (by kernel_rfl) (by kernel_rfl) (s := Rows.listFindsSpec) rfl
    (fun ds hd => by
      have hd : ds.length = 4 := hd
      match ds, hd with
      | [_, _, _, _], _ => rfl)
    (fun ys h hf hb => lawD mx ys h hf hb) W (globs_ok mx hL hm) base args ds gs before hval hW hk
theorem laid_met (os : Os) : laidMet Try.prog Rows.listFindsUptoRow.laid ((World.laidAll Try.prog os Rows.listFindsUptoRow.laid).forCall (fun _ _ => 0) ⟨#[], #[.agg #[.int .i64 0, .int .u64 0, .int .u64 0, .slice none 0 0], .agg #[.string .empty, .slice none 0 0, .int .i64 0, .int .i64 0, .int .i64 0, .int .i64 0, .bool false], .agg #[.string .empty, .string .empty, .int .u64 0], .int .i64 0], []⟩).memory :=
  laidMet_laidAll #[.agg #[.int .i64 0, .int .u64 0, .int .u64 0, .slice none 0 0], .agg #[.string .empty, .slice none 0 0, .int .i64 0, .int .i64 0, .int .i64 0, .int .i64 0, .bool false], .agg #[.string .empty, .string .empty, .int .u64 0], .int .i64 0] (by kernel_rfl) (by kernel_rfl)
theorem reads (os : Os) {H : Type} (enc : TypeId × Value → H) : ∃ places, DataW.whole enc Try.prog ((World.laidAll Try.prog os Rows.listFindsUptoRow.laid).forCall (fun _ _ => 0) ⟨#[], #[.agg #[.int .i64 0, .int .u64 0, .int .u64 0, .slice none 0 0], .agg #[.string .empty, .slice none 0 0, .int .i64 0, .int .i64 0, .int .i64 0, .int .i64 0, .bool false], .agg #[.string .empty, .string .empty, .int .u64 0], .int .i64 0], []⟩).memory Try.f7.params.toList Rows.listFindsSpec.vars false (#[.agg #[.int .i64 0, .int .u64 0, .int .u64 0, .slice none 0 0], .agg #[.string .empty, .slice none 0 0, .int .i64 0, .int .i64 0, .int .i64 0, .int .i64 0, .bool false], .agg #[.string .empty, .string .empty, .int .u64 0], .int .i64 0] : Array Value).toList 8 = some ([.agg [.lit (.int .i64 0), .lit (.int .u64 0), .lit (.int .u64 0), .nil], .agg [.lit (.string []), .nil, .lit (.int .i64 0), .lit (.int .i64 0), .lit (.int .i64 0), .lit (.int .i64 0), .lit (.bool false)], .agg [.lit (.string []), .lit (.string []), .lit (.int .u64 0)], .lit (.int .i64 0)], [], places) :=
  ⟨[], by kernel_rfl⟩
theorem lifted (os : Os) (started : os.Started) (H : Type) (enc : TypeId × Value → H) (F : Stop.Interp) :
    ReturnsInHanded {} Try.checked os 7 .any ((Rows.OpenSpec.upto Rows.listFindsSpec).preRow enc Try.prog Try.f7 Rows.listFindsUptoRow.domain false Rows.listFindsUptoRow.laid) (((Rows.OpenSpec.upto Rows.listFindsSpec).at F).post enc Try.prog Try.f7 false true false false) := by
  obtain ⟨places, hx⟩ := reads os enc
  refine returnsInHanded_of_row (C := Try.checked) (s := Rows.OpenSpec.upto Rows.listFindsSpec) ownK started (by kernel_rfl) Try.func7
    (witness_row_atRef (enc := enc) (C := Try.checked) false (World.laidAll Try.prog os Rows.listFindsUptoRow.laid) #[.agg #[.int .i64 0, .int .u64 0, .int .u64 0, .slice none 0 0], .agg #[.string .empty, .slice none 0 0, .int .i64 0, .int .i64 0, .int .i64 0, .int .i64 0, .bool false], .agg #[.string .empty, .string .empty, .int .u64 0], .int .i64 0] (World.laidAll_os _ _ _) (by kernel_rfl) (by kernel_rfl) (by kernel_rfl)
      (OpenSpec.preRow_of_cond 8 hx (by kernel_rfl) (fun k hk => by cases hk; kernel_rfl) (by kernel_rfl) (laid_met os))) ?_
  intro W base args ds gs before hval hW h1 h2 h3 hL h5 h6
  first
    | exact contract H enc W base args ds gs before hval hW hL h5 (h1 _ rfl)
    | exact contract H enc W base args ds gs before hval hW hL h5 (h2 _ rfl)
    | exact contract H enc W base args ds gs before hval hW hL h5 (h3 _ rfl)
theorem said : Rows.ListFindsUptoSaid :=
  OpenClaim.holds_of_cond 7 Try.f7 rfl rfl rfl rfl rfl rfl rfl ⟨rfl, rfl, rfl, rfl, rfl⟩ rfl rfl rfl rfl rfl (by kernel_rfl) Try.func7 (by kernel_rfl)
    (of_decide_eq_true (by kernel_rfl)) (by unfold Func.isWrapper; first | (rw [if_pos (by decide +kernel)]; kernel_rfl) | (rw [if_neg (by decide +kernel)]; exact ⟨rfl, rfl⟩))
    (fun os started H enc _ F => by rw [OpenClaim.pre_eq_preRow]; exact lifted os started H enc F)
#print axioms said
end Go.Proofs.Ytapaenfafjmljaa
