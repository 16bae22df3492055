/- GlD, GlE, GlF, GlG, GlH, GlI, GlJ, GlK, GlL, GlM: texts of this claim, put together in build order by program. -/
import Derived.Test.YtbdekjlnnbjicaaBl
import Derived.Lib.Bytealg
import Derived.Laws.Externs
/- Steps of rounds; the contracts' shapes. -/
namespace Go.Proofs.Ytbdekjlnnbjicaa.V
open Go
set_option maxRecDepth 100000
set_option linter.unusedVariables false
set_option linter.unusedSimpArgs false
/-! ### some number of rounds comes to this -/
section
variable {r : AV × Objs} {Γ : Ctx} {H : Handle} {f : FuncId} {key : Nat} {st : St}
def EXR (r : AV × Objs) (R : Nat → Option (AV × Objs)) : Prop := ∃ n, R n = some r
theorem Goes.er (h : EXR r fun n => evL Γ H (L Γ H f n) f key st) : Goes Γ H f key st r := Goes.step h
theorem er_of {R R' : Nat → Option (AV × Objs)} (h : ∀ n, R n = R' n) (h' : EXR r R') : EXR r R := by
  obtain ⟨n, h1⟩ := h'
  exact ⟨n, (h n).trans h1⟩
theorem er_lab (h : Goes Γ H f key st r) : EXR r fun n => L Γ H f n (todoAt Γ f key) st := h
theorem er_some : EXR r fun _ => some r := ⟨0, rfl⟩
theorem er_is {r' : AV × Objs} (h : r' = r) : EXR r fun _ => some r' := ⟨0, by rw [h]⟩
theorem er_t {c : Bool} {X Y : Nat → Option (AV × Objs)} (hc : c = true) (h : EXR r X) : EXR r fun n => bif c then X n else Y n := by subst hc; exact h
theorem er_f {c : Bool} {X Y : Nat → Option (AV × Objs)} (hc : c = false) (h : EXR r Y) : EXR r fun n => bif c then X n else Y n := by subst hc; exact h
theorem er_if {c : Bool} {X Y : Nat → Option (AV × Objs)} (h1 : c = true → EXR r X) (h2 : c = false → EXR r Y) : EXR r fun n => bif c then X n else Y n := by
  cases c with
  | true => exact h1 rfl
  | false => exact h2 rfl
theorem er_idx {α : Type} {l : List α} {i : Int} {y : α} {K : Nat → α → Option (AV × Objs)} (h0 : 0 ≤ i) (h : l[i.toNat]? = some y) (h' : EXR r fun n => K n y) : EXR r fun n => idx l i (K n) := by
  obtain ⟨n, h1⟩ := h'
  refine ⟨n, ?_⟩
  show idx l i (K n) = _
  unfold idx lGet
  rw [decide_eq_true h0, cond_true, h]
  exact h1
theorem er_get {α : Type} {l : List α} {i : Nat} {y : α} {K : Nat → α → Option (AV × Objs)} (h : l[i]? = some y) (h' : EXR r fun n => K n y) : EXR r fun n => lGet l i (K n) := by
  obtain ⟨n, h1⟩ := h'
  refine ⟨n, ?_⟩
  show lGet l i (K n) = _
  unfold lGet
  rw [h]
  exact h1
theorem er_agg {ys : List D} {K : Nat → List D → Option (AV × Objs)} (h : EXR r fun n => K n ys) : EXR r fun n => dAgg (.agg ys) (K n) := h
theorem er_lc {α : Type} {x : α} {q : List α} {K : Nat → α → List α → Option (AV × Objs)} (h : EXR r fun n => K n x q) : EXR r fun n => lCons (x :: q) (K n) := h
theorem er_ln {α : Type} {K : Nat → Option (AV × Objs)} (h : EXR r fun n => K n) : EXR r fun n => lNil ([] : List α) (K n) := h
theorem er_i {x : Int} {K : Nat → Int → Option (AV × Objs)} (h : EXR r fun n => K n x) : EXR r fun n => dInt .i64 (.int .i64 x) (K n) := h
theorem er_u {x : Int} {K : Nat → Int → Option (AV × Objs)} (h : EXR r fun n => K n x) : EXR r fun n => dInt .u64 (.int .u64 x) (K n) := h
theorem er_s {x : List UInt8} {K : Nat → List UInt8 → Option (AV × Objs)} (h : EXR r fun n => K n x) : EXR r fun n => dStr (.str x) (K n) := h
theorem er_b {x : Bool} {K : Nat → Bool → Option (AV × Objs)} (h : EXR r fun n => K n x) : EXR r fun n => dBool (.bool x) (K n) := h
theorem er_sl {c : Cp} {x : List D} {K : Nat → Cp → List D → Option (AV × Objs)} (h : EXR r fun n => K n c x) : EXR r fun n => dSlice (.slice c x) (K n) := h
theorem er_w {x : Int} {K : Nat → Int → Option (AV × Objs)} (h : EXR r fun n => K n x) : EXR r fun n => dInt .u32 (.int .u32 x) (K n) := h
theorem er_c {x : Int} {K : Nat → Int → Option (AV × Objs)} (h : EXR r fun n => K n x) : EXR r fun n => dInt .u8 (.int .u8 x) (K n) := h
theorem er_onnil {α : Type} {l : List α} {X Y : Nat → Option (AV × Objs)} (h1 : l = [] → EXR r X) (h2 : l ≠ [] → EXR r Y) : EXR r fun n => onNil l (X n) (Y n) := by
  cases l with
  | nil => exact h1 rfl
  | cons a b => exact h2 (by simp)
end
section
variable {Γ : Ctx} {g : FuncId}
theorem RetX.anyc {e : TypeId} {c : Cp} {l : List D} {r : List AV} {obs obs' : Objs} {v : AV} (h : RetX Γ g (.sl e .any l :: r) obs v obs') : RetX Γ g (.sl e c l :: r) obs v obs' := by
  intro w S σ X vals hX hM ha
  refine h w S σ X vals hX hM ?_
  simp only [RepAs, RepA] at ha ⊢
  obtain ⟨x, y, rfl, ⟨a, cap, rfl, hc, h2⟩, h3⟩ := ha
  exact ⟨_, _, rfl, ⟨a, cap, rfl, hc.any, h2⟩, h3⟩
theorem RetX.to {args : List AV} {obs obs' : Objs} {r r' : AV} (h : RetX Γ g args obs r obs') (hr : ∀ w S σ v, RepA Γ.P w S σ obs' r v → RepA Γ.P w S σ obs' r' v) : RetX Γ g args obs r' obs' := by
  intro w S σ X vals hX hM ha
  refine (h w S σ X vals hX hM ha).mono ?_
  rintro v w' ⟨S', σ', hM2, hk, h2⟩
  exact ⟨S', σ', hM2, hk, hr _ _ _ _ h2⟩
end
theorem none_ok : CallsOK Γ (runS []) := specs_ok .nil
theorem wrapI {n : Int} (h0 : -9223372036854775808 ≤ n) (h1 : n ≤ 9223372036854775807) : IntKind.i64.wrap n = n := by
  rw [IntKind.wrap_i64]; omega
theorem get_mid {α : Type} (pre : List α) (y : α) (r : List α) : (pre ++ y :: r)[pre.length]? = some y := by simp
theorem room1 {n : Nat} (h : n ≤ 10000000000000) : roomB n 1 = true := by
  unfold roomB
  simp only [Bool.and_eq_true, decide_eq_true_eq]
  exact ⟨rfl, by omega⟩
theorem bytesD_len (t : Tx) : (bytesD t).length = t.length := by unfold bytesD; simp
theorem bytesD_app (s t : Tx) : bytesD (s ++ t) = bytesD s ++ bytesD t := by unfold bytesD; simp
theorem unBytes_bytesD : ∀ l : List UInt8, unBytes (bytesD l) = some l
  | [] => rfl
  | c :: r => by
    have ih := unBytes_bytesD r
    unfold bytesD at ih ⊢
    simp only [List.map_cons, unBytes, ih, Option.map_some, Int.toNat_natCast, UInt8.ofNat_toNat]
theorem er_kb {r : AV × Objs} {l : List UInt8} {K : Nat → List UInt8 → Option (AV × Objs)} (h : EXR r fun n => K n l) : EXR r fun n => kBytes (bytesD l) (K n) := by
  obtain ⟨n, h1⟩ := h
  refine ⟨n, ?_⟩
  show kBytes (bytesD l) (K n) = _
  unfold kBytes
  rw [unBytes_bytesD]
  exact h1
/-! ### pieces as data; what the functions come to -/
def dpc : Pc → D
  | .ex c => .agg [.int .i64 0, .int .u8 (c.toNat : Int)]
  | .one => .agg [.int .i64 1, .int .u8 0]
  | .many => .agg [.int .i64 2, .int .u8 0]
def okP (p : Tx) : Bool := decide (p.length ≤ 200) && (pcs p).2
def erP (p : Tx) : Int := bif okP p then 0 else 2
def gpl (p : Tx) : List D := bif okP p then (pcs p).1.map dpc else []
def rpl (p : Tx) : List D := bif decide (p.length ≤ 200) then (pcs p).1.map dpc else []
def lstP (p : Tx) : Int := bif okP p then ((lstL (pcs p).1 : Nat) : Int) else 0
def plnB (p : Tx) : Bool := okP p && (plnO (pcs p).1).isSome
def plnS (p : Tx) : Tx := bif okP p then (plnO (pcs p).1).getD [] else []
def isPc : D → Bool
  | .agg [.int .i64 _, .int .u8 _] => true
  | _ => false
def fitD : D → Int → Bool
  | .agg [.int _ k, .int _ b], c => bif k == 1 then true else bif k == 0 then b == c else false
  | _, _ => false
def spFits : List AV → Option (Bool × AV)
  | [.d 37 x, .i .u8 c] => some (isPc x, .b (fitD x c))
  | _ => none
def cntZ (l : Tx) (c : Int) : Int := ((Lib.countByte l c.toNat.toUInt8 : Nat) : Int)
def one1 (x : Tx) : Bool := x.length == 1
def cntQ (l x : Tx) : Int := cntZ l ((x.headD 0).toNat : Int)
def spCnt : List AV → Option (Bool × AV)
  | [.s l, .s x] => some (one1 x, .i .i64 (cntQ l x))
  | _ => none
/-- internal/bytealg.CountString -/
def xCount : List AV → Objs → Option (Bool × AV × Objs)
  | [.s l, .i .u8 c], [] => some (true, .i .i64 (cntZ l c), [])
  | _, _ => none
end Go.Proofs.Ytbdekjlnnbjicaa.V

/- What the machine over values makes of the functions: equations, written by program. -/
namespace Go.Proofs.Ytbdekjlnnbjicaa.V
open Go
set_option maxRecDepth 100000
set_option linter.unusedVariables false
set_option linter.unusedSimpArgs false
def W92 : Handle := runS [⟨94, xCount⟩]
theorem w92 (lab : Lab) (s : List UInt8) (c : UInt8) : evF Γ W92 lab 92 [.s s, .s [c]] [] = some (.i .i64 (cntZ s c.toNat), []) := by kernel_rfl
def W90 : Handle := runS [⟨92, dat spCnt⟩]
theorem w90 (lab : Lab) (s : List UInt8) (tb : List D) (tr : List D) : evF Γ W90 lab 90 [.ptr 0 [] 81, .s s] [some (.box 81 (.agg 81 [.d 80 (D.agg tb), .ref 9 1])), some (.arr 9 tr false)] =
  bif decide ((IntKind.wrap .i64 (((tr.length : Int)) * 8)) ≤ ((List.length s : Int))) then (lab (todoAt Γ 90 5) ⟨[(0, .ptr 0 [] 81), (1, .s s), (5, .i .i64 ((List.length s : Int))), (6, .b false), (30, .ref 9 1), (31, .i .i64 ((tr.length : Int))), (32, .i .i64 0)], [some (.box 81 (.agg 81 [.d 80 (D.agg tb), .ref 9 1])), some (.arr 9 tr false)]⟩) else (lab (todoAt Γ 90 13) ⟨[(0, .ptr 0 [] 81), (1, .s s), (5, .i .i64 ((List.length s : Int))), (6, .b false), (10, .i .i64 0)], [some (.box 81 (.agg 81 [.d 80 (D.agg tb), .ref 9 1])), some (.arr 9 tr false)]⟩) := by kernel_rfl
theorem w90_5a (lab : Lab) (s1 : List UInt8) (n2 : Int) (b3 : Bool) (n4 : Int) (n5 : Int) (y6 : List D) (l7 : List D) : evL Γ W90 lab 90 5 ⟨[(0, .ptr 0 [] 81), (1, .s s1), (5, .i .i64 n2), (6, .b b3), (30, .ref 9 1), (31, .i .i64 n4), (32, .i .i64 n5)], [some (.box 81 (.agg 81 [.d 80 (D.agg y6), .ref 9 1])), some (.arr 9 l7 false)]⟩ =
  bif decide (n5 < n4) then (bif decide ((0:Int) ≤ n5) && decide (n5 < (l7.length : Int)) then (lGet l7 (Int.toNat n5) fun y8 => dStr y8 fun s9 => bif one1 s9 then (bif (cntQ s1 s9) != 0 then (idx s9 0 fun c10 => bif decide ((0:Int) ≤ ((c10.toNat : Int))) && decide (((c10.toNat : Int)) < (256 : Int)) then (lGet y6 (Int.toNat ((c10.toNat : Int))) fun y11 => dSlice y11 fun c12 l13 => lab (todoAt Γ 90 5) ⟨[(0, .ptr 0 [] 81), (1, .s s1), (5, .i .i64 (IntKind.wrap .i64 (n2 + (IntKind.wrap .i64 ((cntQ s1 s9) * (IntKind.wrap .i64 (((l13.length : Int)) - 1))))))), (6, .b true), (30, .ref 9 1), (31, .i .i64 n4), (32, .i .i64 (IntKind.wrap .i64 (n5 + 1)))], [some (.box 81 (.agg 81 [.d 80 (D.agg y6), .ref 9 1])), some (.arr 9 l7 false)]⟩) else none) else (lab (todoAt Γ 90 5) ⟨[(0, .ptr 0 [] 81), (1, .s s1), (5, .i .i64 n2), (6, .b b3), (30, .ref 9 1), (31, .i .i64 n4), (32, .i .i64 (IntKind.wrap .i64 (n5 + 1)))], [some (.box 81 (.agg 81 [.d 80 (D.agg y6), .ref 9 1])), some (.arr 9 l7 false)]⟩)) else none) else none) else (bif !b3 then (some (.s s1, [some (.box 81 (.agg 81 [.d 80 (D.agg y6), .ref 9 1])), some (.arr 9 l7 false)])) else (bif decide ((0:Int) ≤ n2) && decide (n2 ≤ n2) && roomB (Int.toNat n2) 1 then (lab (todoAt Γ 90 24) ⟨[(0, .ptr 0 [] 81), (1, .s s1), (12, .ref 5 2), (13, .i .i64 0), (14, .i .i64 0)], [some (.box 81 (.agg 81 [.d 80 (D.agg y6), .ref 9 1])), some (.arr 9 l7 false), some (.arr 5 (List.replicate (Int.toNat n2) (D.int .u8 0)) false)]⟩) else none)) := by kernel_rfl
theorem w90_13a (lab : Lab) (s1 : List UInt8) (n2 : Int) (b3 : Bool) (n4 : Int) (y5 : List D) (l6 : List D) : evL Γ W90 lab 90 13 ⟨[(0, .ptr 0 [] 81), (1, .s s1), (5, .i .i64 n2), (6, .b b3), (10, .i .i64 n4)], [some (.box 81 (.agg 81 [.d 80 (D.agg y5), .ref 9 1])), some (.arr 9 l6 false)]⟩ =
  bif decide (n4 < ((List.length s1 : Int))) then (idx s1 n4 fun c7 => bif decide ((0:Int) ≤ ((c7.toNat : Int))) && decide (((c7.toNat : Int)) < (256 : Int)) then (lGet y5 (Int.toNat ((c7.toNat : Int))) fun y8 => dSlice y8 fun c9 l10 => onSome (isNilS (.sl 5 c9 l10)) fun p11 => bif p11 || true then (bif !(p11 == true) then (bif decide ((0:Int) ≤ ((c7.toNat : Int))) && decide (((c7.toNat : Int)) < (256 : Int)) then (lGet y5 (Int.toNat ((c7.toNat : Int))) fun y12 => dSlice y12 fun c13 l14 => lab (todoAt Γ 90 13) ⟨[(0, .ptr 0 [] 81), (1, .s s1), (5, .i .i64 (IntKind.wrap .i64 (n2 + (IntKind.wrap .i64 (((l14.length : Int)) - 1))))), (6, .b true), (10, .i .i64 (IntKind.wrap .i64 (n4 + 1)))], [some (.box 81 (.agg 81 [.d 80 (D.agg y5), .ref 9 1])), some (.arr 9 l6 false)]⟩) else none) else (lab (todoAt Γ 90 13) ⟨[(0, .ptr 0 [] 81), (1, .s s1), (5, .i .i64 n2), (6, .b b3), (10, .i .i64 (IntKind.wrap .i64 (n4 + 1)))], [some (.box 81 (.agg 81 [.d 80 (D.agg y5), .ref 9 1])), some (.arr 9 l6 false)]⟩)) else none) else none) else (bif !b3 then (some (.s s1, [some (.box 81 (.agg 81 [.d 80 (D.agg y5), .ref 9 1])), some (.arr 9 l6 false)])) else (bif decide ((0:Int) ≤ n2) && decide (n2 ≤ n2) && roomB (Int.toNat n2) 1 then (lab (todoAt Γ 90 24) ⟨[(0, .ptr 0 [] 81), (1, .s s1), (12, .ref 5 2), (13, .i .i64 0), (14, .i .i64 0)], [some (.box 81 (.agg 81 [.d 80 (D.agg y5), .ref 9 1])), some (.arr 9 l6 false), some (.arr 5 (List.replicate (Int.toNat n2) (D.int .u8 0)) false)]⟩) else none)) := by kernel_rfl
theorem w90_24a (lab : Lab) (s1 : List UInt8) (n2 : Int) (n3 : Int) (y4 : List D) (l5 : List D) (l6 : List D) : evL Γ W90 lab 90 24 ⟨[(0, .ptr 0 [] 81), (1, .s s1), (12, .ref 5 2), (13, .i .i64 n2), (14, .i .i64 n3)], [some (.box 81 (.agg 81 [.d 80 (D.agg y4), .ref 9 1])), some (.arr 9 l5 false), some (.arr 5 l6 false)]⟩ =
  bif decide (n3 < ((List.length s1 : Int))) then (idx s1 n3 fun c7 => bif decide ((0:Int) ≤ ((c7.toNat : Int))) && decide (((c7.toNat : Int)) < (256 : Int)) then (lGet y4 (Int.toNat ((c7.toNat : Int))) fun y8 => dSlice y8 fun c9 l10 => onSome (isNilS (.sl 5 c9 l10)) fun p11 => bif p11 || true then (bif !(p11 == true) then (bif decide ((0:Int) ≤ n2) && decide (n2 ≤ (l6.length : Int)) then (bif decide ((0:Int) ≤ ((c7.toNat : Int))) && decide (((c7.toNat : Int)) < (256 : Int)) then (lGet y4 (Int.toNat ((c7.toNat : Int))) fun y12 => dSlice y12 fun c13 l14 => lab (todoAt Γ 90 24) ⟨[(0, .ptr 0 [] 81), (1, .s s1), (12, .ref 5 2), (13, .i .i64 (IntKind.wrap .i64 (n2 + ((Nat.min (l14.length) ((l6.length) - (Int.toNat n2)) : Int))))), (14, .i .i64 (IntKind.wrap .i64 (n3 + 1)))], [some (.box 81 (.agg 81 [.d 80 (D.agg y4), .ref 9 1])), some (.arr 9 l5 false), some (.arr 5 (putL l6 (Int.toNat n2) (List.take ((l6.length) - (Int.toNat n2)) l14)) false)]⟩) else none) else none) else (bif decide ((0:Int) ≤ n2) && decide (n2 < (l6.length : Int)) then (lGet l6 (Int.toNat n2) fun y15 => lab (todoAt Γ 90 24) ⟨[(0, .ptr 0 [] 81), (1, .s s1), (12, .ref 5 2), (13, .i .i64 (IntKind.wrap .i64 (n2 + 1))), (14, .i .i64 (IntKind.wrap .i64 (n3 + 1)))], [some (.box 81 (.agg 81 [.d 80 (D.agg y4), .ref 9 1])), some (.arr 9 l5 false), some (.arr 5 (List.set l6 (Int.toNat n2) (D.int .u8 ((c7.toNat : Int)))) false)]⟩) else none)) else none) else none) else (kBytes l6 fun s16 => some (.s s16, [some (.box 81 (.agg 81 [.d 80 (D.agg y4), .ref 9 1])), some (.arr 9 l5 false)])) := by kernel_rfl
theorem w19 (lab : Lab) (p : List UInt8) : evF Γ (runS []) lab 19 [.s p] [] =
  bif decide (((List.length p : Int)) > 200) then (some (.tuple [.snil, .b false], [])) else (lab (todoAt Γ 19 5) ⟨[(0, .s p), (4, .snil), (5, .i .i64 0)], []⟩) := by kernel_rfl
theorem w19_5a (lab : Lab) (s1 : List UInt8) (n2 : Int) : evL Γ (runS []) lab 19 5 ⟨[(0, .s s1), (4, .snil), (5, .i .i64 n2)], []⟩ =
  bif decide (n2 < ((List.length s1 : Int))) then (idx s1 n2 fun c3 => bif ((c3.toNat : Int)) == 42 then (lab (todoAt Γ 19 5) ⟨[(0, .s s1), (4, .ref 37 0), (5, .i .i64 (IntKind.wrap .i64 (n2 + 1)))], [some (.arr 37 [D.agg [D.int .i64 2, D.int .u8 0]] false)]⟩) else (bif ((c3.toNat : Int)) == 63 then (lab (todoAt Γ 19 5) ⟨[(0, .s s1), (4, .ref 37 0), (5, .i .i64 (IntKind.wrap .i64 (n2 + 1)))], [some (.arr 37 [D.agg [D.int .i64 1, D.int .u8 0]] false)]⟩) else (bif ((c3.toNat : Int)) == 92 then (bif (IntKind.wrap .i64 (n2 + 1)) == ((List.length s1 : Int)) then (some (.tuple [.snil, .b false], [])) else (idx s1 (IntKind.wrap .i64 (n2 + 1)) fun c4 => lab (todoAt Γ 19 5) ⟨[(0, .s s1), (4, .ref 37 0), (5, .i .i64 (IntKind.wrap .i64 ((IntKind.wrap .i64 (n2 + 1)) + 1)))], [some (.arr 37 [D.agg [D.int .i64 0, D.int .u8 ((c4.toNat : Int))]] false)]⟩)) else (idx s1 n2 fun c5 => lab (todoAt Γ 19 5) ⟨[(0, .s s1), (4, .ref 37 0), (5, .i .i64 (IntKind.wrap .i64 (n2 + 1)))], [some (.arr 37 [D.agg [D.int .i64 0, D.int .u8 ((c5.toNat : Int))]] false)]⟩)))) else (some (.tuple [.snil, .b true], [])) := by kernel_rfl
theorem w19_5b (lab : Lab) (s1 : List UInt8) (n2 : Int) (l3 : List D) : evL Γ (runS []) lab 19 5 ⟨[(0, .s s1), (4, .ref 37 0), (5, .i .i64 n2)], [some (.arr 37 l3 false)]⟩ =
  bif decide (n2 < ((List.length s1 : Int))) then (idx s1 n2 fun c4 => bif ((c4.toNat : Int)) == 42 then (bif roomB (l3.length + 1) 16 then (lab (todoAt Γ 19 5) ⟨[(0, .s s1), (4, .ref 37 0), (5, .i .i64 (IntKind.wrap .i64 (n2 + 1)))], [some (.arr 37 (l3 ++ [D.agg [D.int .i64 2, D.int .u8 0]]) false)]⟩) else none) else (bif ((c4.toNat : Int)) == 63 then (bif roomB (l3.length + 1) 16 then (lab (todoAt Γ 19 5) ⟨[(0, .s s1), (4, .ref 37 0), (5, .i .i64 (IntKind.wrap .i64 (n2 + 1)))], [some (.arr 37 (l3 ++ [D.agg [D.int .i64 1, D.int .u8 0]]) false)]⟩) else none) else (bif ((c4.toNat : Int)) == 92 then (bif (IntKind.wrap .i64 (n2 + 1)) == ((List.length s1 : Int)) then (some (.tuple [.snil, .b false], [])) else (idx s1 (IntKind.wrap .i64 (n2 + 1)) fun c5 => bif roomB (l3.length + 1) 16 then (lab (todoAt Γ 19 5) ⟨[(0, .s s1), (4, .ref 37 0), (5, .i .i64 (IntKind.wrap .i64 ((IntKind.wrap .i64 (n2 + 1)) + 1)))], [some (.arr 37 (l3 ++ [D.agg [D.int .i64 0, D.int .u8 ((c5.toNat : Int))]]) false)]⟩) else none)) else (idx s1 n2 fun c6 => bif roomB (l3.length + 1) 16 then (lab (todoAt Γ 19 5) ⟨[(0, .s s1), (4, .ref 37 0), (5, .i .i64 (IntKind.wrap .i64 (n2 + 1)))], [some (.arr 37 (l3 ++ [D.agg [D.int .i64 0, D.int .u8 ((c6.toNat : Int))]]) false)]⟩) else none)))) else (some (.tuple [.sl 37 .any l3, .b true], [])) := by kernel_rfl
theorem w21 (lab : Lab) (p : List UInt8) : evF Γ (runS []) lab 21 [.s p] [] =
  bif decide (((List.length p : Int)) > 200) then (some (.tuple [.sl 44 .ex [], .b false], [])) else (lab (todoAt Γ 21 5) ⟨[(0, .s p), (4, .sl 44 .ex []), (5, .i .i64 0)], []⟩) := by kernel_rfl
theorem w21_5a (lab : Lab) (s1 : List UInt8) (l2 : List D) (n3 : Int) : evL Γ (runS []) lab 21 5 ⟨[(0, .s s1), (4, .sl 44 .ex l2), (5, .i .i64 n3)], []⟩ =
  bif decide (n3 < ((List.length s1 : Int))) then (idx s1 n3 fun c4 => bif ((c4.toNat : Int)) == 42 then (bif roomB (l2.length + 1) 16 then (lab (todoAt Γ 21 5) ⟨[(0, .s s1), (4, .ref 44 0), (5, .i .i64 (IntKind.wrap .i64 (n3 + 1)))], [some (.arr 44 (l2 ++ [D.agg [D.int .i64 2, D.int .u8 0]]) false)]⟩) else none) else (bif ((c4.toNat : Int)) == 63 then (bif roomB (l2.length + 1) 16 then (lab (todoAt Γ 21 5) ⟨[(0, .s s1), (4, .ref 44 0), (5, .i .i64 (IntKind.wrap .i64 (n3 + 1)))], [some (.arr 44 (l2 ++ [D.agg [D.int .i64 1, D.int .u8 0]]) false)]⟩) else none) else (bif ((c4.toNat : Int)) == 92 then (bif n3 == (IntKind.wrap .i64 (((List.length s1 : Int)) - 1)) then (some (.tuple [.sl 44 .ex l2, .b false], [])) else (idx s1 (IntKind.wrap .i64 (n3 + 1)) fun c5 => bif roomB (l2.length + 1) 16 then (lab (todoAt Γ 21 5) ⟨[(0, .s s1), (4, .ref 44 0), (5, .i .i64 (IntKind.wrap .i64 ((IntKind.wrap .i64 (n3 + 1)) + 1)))], [some (.arr 44 (l2 ++ [D.agg [D.int .i64 0, D.int .u8 ((c5.toNat : Int))]]) false)]⟩) else none)) else (idx s1 n3 fun c6 => bif roomB (l2.length + 1) 16 then (lab (todoAt Γ 21 5) ⟨[(0, .s s1), (4, .ref 44 0), (5, .i .i64 (IntKind.wrap .i64 (n3 + 1)))], [some (.arr 44 (l2 ++ [D.agg [D.int .i64 0, D.int .u8 ((c6.toNat : Int))]]) false)]⟩) else none)))) else (some (.tuple [.sl 44 .ex l2, .b true], [])) := by kernel_rfl
theorem w21_5b (lab : Lab) (s1 : List UInt8) (n2 : Int) (l3 : List D) : evL Γ (runS []) lab 21 5 ⟨[(0, .s s1), (4, .ref 44 0), (5, .i .i64 n2)], [some (.arr 44 l3 false)]⟩ =
  bif decide (n2 < ((List.length s1 : Int))) then (idx s1 n2 fun c4 => bif ((c4.toNat : Int)) == 42 then (bif roomB (l3.length + 1) 16 then (lab (todoAt Γ 21 5) ⟨[(0, .s s1), (4, .ref 44 0), (5, .i .i64 (IntKind.wrap .i64 (n2 + 1)))], [some (.arr 44 (l3 ++ [D.agg [D.int .i64 2, D.int .u8 0]]) false)]⟩) else none) else (bif ((c4.toNat : Int)) == 63 then (bif roomB (l3.length + 1) 16 then (lab (todoAt Γ 21 5) ⟨[(0, .s s1), (4, .ref 44 0), (5, .i .i64 (IntKind.wrap .i64 (n2 + 1)))], [some (.arr 44 (l3 ++ [D.agg [D.int .i64 1, D.int .u8 0]]) false)]⟩) else none) else (bif ((c4.toNat : Int)) == 92 then (bif n2 == (IntKind.wrap .i64 (((List.length s1 : Int)) - 1)) then (some (.tuple [.sl 44 .any l3, .b false], [])) else (idx s1 (IntKind.wrap .i64 (n2 + 1)) fun c5 => bif roomB (l3.length + 1) 16 then (lab (todoAt Γ 21 5) ⟨[(0, .s s1), (4, .ref 44 0), (5, .i .i64 (IntKind.wrap .i64 ((IntKind.wrap .i64 (n2 + 1)) + 1)))], [some (.arr 44 (l3 ++ [D.agg [D.int .i64 0, D.int .u8 ((c5.toNat : Int))]]) false)]⟩) else none)) else (idx s1 n2 fun c6 => bif roomB (l3.length + 1) 16 then (lab (todoAt Γ 21 5) ⟨[(0, .s s1), (4, .ref 44 0), (5, .i .i64 (IntKind.wrap .i64 (n2 + 1)))], [some (.arr 44 (l3 ++ [D.agg [D.int .i64 0, D.int .u8 ((c6.toNat : Int))]]) false)]⟩) else none)))) else (some (.tuple [.sl 44 .any l3, .b true], [])) := by kernel_rfl
theorem w20 (lab : Lab) (k : Int) (b : Int) (c : Int) : evF Γ (runS []) lab 20 [.d 37 (D.agg [D.int .i64 k, D.int .u8 b]), .i .u8 c] [] =
  bif k == 1 then (some (.b true, [])) else (bif k == 0 then (some (.b (b == c), [])) else (some (.b false, []))) := by kernel_rfl
def W9 : Handle := runS [⟨19, dat (sp1 short fun p => .tuple [.sl 37 .any (gpl p), .b (okP p)])⟩, ⟨20, dat spFits⟩]
theorem w9 (lab : Lab) (p : List UInt8) (s : List UInt8) : evF Γ W9 lab 9 [.s p, .s s] [] =
  bif short p then (bif !(okP p) then (some (.tuple [.b false, .i .i64 2], [])) else (lab (todoAt Γ 9 6) ⟨[(1, .s s), (6, .sl 37 .any ((gpl p))), (8, .i .i64 0), (9, .i .i64 0), (10, .i .i64 (-1)), (11, .i .i64 0)], []⟩)) else none := by kernel_rfl
theorem w9_6a (lab : Lab) (s1 : List UInt8) (l2 : List D) (n3 : Int) (n4 : Int) (n5 : Int) (n6 : Int) : evL Γ W9 lab 9 6 ⟨[(1, .s s1), (6, .sl 37 .any l2), (8, .i .i64 n3), (9, .i .i64 n4), (10, .i .i64 n5), (11, .i .i64 n6)], []⟩ =
  bif decide (n4 < ((List.length s1 : Int))) then (bif decide (n3 < ((l2.length : Int))) then (idx l2 n3 fun y7 => dAgg y7 fun y8 => lGet y8 0 fun y9 => dInt .i64 y9 fun n10 => bif n10 == 2 then (lab (todoAt Γ 9 6) ⟨[(1, .s s1), (6, .sl 37 .any l2), (8, .i .i64 (IntKind.wrap .i64 (n3 + 1))), (9, .i .i64 n4), (10, .i .i64 n3), (11, .i .i64 n4)], []⟩) else (bif decide (n3 < ((l2.length : Int))) then (idx l2 n3 fun y11 => dAgg y11 fun y12 => lCons y12 fun a13 r14 => dInt .i64 a13 fun n15 => lCons r14 fun a16 r17 => dInt .u8 a16 fun n18 => lNil r17 (idx s1 n4 fun c19 => bif isPc (D.agg [D.int .i64 n15, D.int .u8 n18]) then (bif fitD (D.agg [D.int .i64 n15, D.int .u8 n18]) ((c19.toNat : Int)) then (lab (todoAt Γ 9 6) ⟨[(1, .s s1), (6, .sl 37 .any l2), (8, .i .i64 (IntKind.wrap .i64 (n3 + 1))), (9, .i .i64 (IntKind.wrap .i64 (n4 + 1))), (10, .i .i64 n5), (11, .i .i64 n6)], []⟩) else (bif decide (n5 ≥ 0) then (lab (todoAt Γ 9 6) ⟨[(1, .s s1), (6, .sl 37 .any l2), (8, .i .i64 (IntKind.wrap .i64 (n5 + 1))), (9, .i .i64 (IntKind.wrap .i64 (n6 + 1))), (10, .i .i64 n5), (11, .i .i64 (IntKind.wrap .i64 (n6 + 1)))], []⟩) else (some (.tuple [.b false, .i .i64 0], [])))) else none)) else (bif decide (n5 ≥ 0) then (lab (todoAt Γ 9 6) ⟨[(1, .s s1), (6, .sl 37 .any l2), (8, .i .i64 (IntKind.wrap .i64 (n5 + 1))), (9, .i .i64 (IntKind.wrap .i64 (n6 + 1))), (10, .i .i64 n5), (11, .i .i64 (IntKind.wrap .i64 (n6 + 1)))], []⟩) else (some (.tuple [.b false, .i .i64 0], []))))) else (bif decide (n3 < ((l2.length : Int))) then (idx l2 n3 fun y20 => dAgg y20 fun y21 => lCons y21 fun a22 r23 => dInt .i64 a22 fun n24 => lCons r23 fun a25 r26 => dInt .u8 a25 fun n27 => lNil r26 (idx s1 n4 fun c28 => bif isPc (D.agg [D.int .i64 n24, D.int .u8 n27]) then (bif fitD (D.agg [D.int .i64 n24, D.int .u8 n27]) ((c28.toNat : Int)) then (lab (todoAt Γ 9 6) ⟨[(1, .s s1), (6, .sl 37 .any l2), (8, .i .i64 (IntKind.wrap .i64 (n3 + 1))), (9, .i .i64 (IntKind.wrap .i64 (n4 + 1))), (10, .i .i64 n5), (11, .i .i64 n6)], []⟩) else (bif decide (n5 ≥ 0) then (lab (todoAt Γ 9 6) ⟨[(1, .s s1), (6, .sl 37 .any l2), (8, .i .i64 (IntKind.wrap .i64 (n5 + 1))), (9, .i .i64 (IntKind.wrap .i64 (n6 + 1))), (10, .i .i64 n5), (11, .i .i64 (IntKind.wrap .i64 (n6 + 1)))], []⟩) else (some (.tuple [.b false, .i .i64 0], [])))) else none)) else (bif decide (n5 ≥ 0) then (lab (todoAt Γ 9 6) ⟨[(1, .s s1), (6, .sl 37 .any l2), (8, .i .i64 (IntKind.wrap .i64 (n5 + 1))), (9, .i .i64 (IntKind.wrap .i64 (n6 + 1))), (10, .i .i64 n5), (11, .i .i64 (IntKind.wrap .i64 (n6 + 1)))], []⟩) else (some (.tuple [.b false, .i .i64 0], []))))) else (lab (todoAt Γ 9 16) ⟨[(6, .sl 37 .any l2), (8, .i .i64 n3)], []⟩) := by kernel_rfl
theorem w9_16a (lab : Lab) (l1 : List D) (n2 : Int) : evL Γ W9 lab 9 16 ⟨[(6, .sl 37 .any l1), (8, .i .i64 n2)], []⟩ =
  bif decide (n2 < ((l1.length : Int))) then (idx l1 n2 fun y3 => dAgg y3 fun y4 => lGet y4 0 fun y5 => dInt .i64 y5 fun n6 => bif n6 == 2 then (lab (todoAt Γ 9 16) ⟨[(6, .sl 37 .any l1), (8, .i .i64 (IntKind.wrap .i64 (n2 + 1)))], []⟩) else (some (.tuple [.b (n2 == ((l1.length : Int))), .i .i64 0], []))) else (some (.tuple [.b (n2 == ((l1.length : Int))), .i .i64 0], [])) := by kernel_rfl
def W10 : Handle := runS [⟨21, dat (sp1 short fun p => .tuple [.sl 44 .any (rpl p), .b (okP p)])⟩]
theorem w10 (lab : Lab) (p : List UInt8) (s : List UInt8) : evF Γ W10 lab 10 [.s p, .s s] [] =
  bif short p then (bif !(okP p) then (some (.tuple [.b false, .i .i64 2], [])) else (bif decide ((0:Int) ≤ (IntKind.wrap .i64 (((List.length s : Int)) + 1))) && decide ((IntKind.wrap .i64 (((List.length s : Int)) + 1)) ≤ (IntKind.wrap .i64 (((List.length s : Int)) + 1))) && roomB (Int.toNat (IntKind.wrap .i64 (((List.length s : Int)) + 1))) 1 then (bif decide ((0:Int) ≤ ((List.length s : Int))) && decide (((List.length s : Int)) < ((List.replicate (Int.toNat (IntKind.wrap .i64 (((List.length s : Int)) + 1))) (D.bool false)).length : Int)) then (lGet (List.replicate (Int.toNat (IntKind.wrap .i64 (((List.length s : Int)) + 1))) (D.bool false)) (Int.toNat ((List.length s : Int))) fun y1 => lab (todoAt Γ 10 7) ⟨[(1, .s s), (6, .sl 44 .any ((rpl p))), (8, .ref 4 0), (9, .i .i64 (IntKind.wrap .i64 (((((rpl p)).length : Int)) - 1)))], [some (.arr 4 (List.set (List.replicate (Int.toNat (IntKind.wrap .i64 (((List.length s : Int)) + 1))) (D.bool false)) (Int.toNat ((List.length s : Int))) (D.bool true)) false)]⟩) else none) else none)) else none := by kernel_rfl
theorem w10_7a (lab : Lab) (s1 : List UInt8) (l2 : List D) (n3 : Int) (l4 : List D) : evL Γ W10 lab 10 7 ⟨[(1, .s s1), (6, .sl 44 .any l2), (8, .ref 4 0), (9, .i .i64 n3)], [some (.arr 4 l4 false)]⟩ =
  bif decide (n3 ≥ 0) then (bif decide ((0:Int) ≤ (IntKind.wrap .i64 (((List.length s1 : Int)) + 1))) && decide ((IntKind.wrap .i64 (((List.length s1 : Int)) + 1)) ≤ (IntKind.wrap .i64 (((List.length s1 : Int)) + 1))) && roomB (Int.toNat (IntKind.wrap .i64 (((List.length s1 : Int)) + 1))) 1 then (lab (todoAt Γ 10 11) ⟨[(1, .s s1), (6, .sl 44 .any l2), (8, .ref 4 0), (9, .i .i64 n3), (10, .ref 4 1), (11, .i .i64 ((List.length s1 : Int)))], [some (.arr 4 l4 false), some (.arr 4 (List.replicate (Int.toNat (IntKind.wrap .i64 (((List.length s1 : Int)) + 1))) (D.bool false)) false)]⟩) else none) else (bif decide ((0:Int) ≤ 0) && decide (0 < (l4.length : Int)) then (lGet l4 0 fun y5 => dBool y5 fun b6 => some (.tuple [.b b6, .i .i64 0], [])) else none) := by kernel_rfl
theorem w10_11a (lab : Lab) (s1 : List UInt8) (l2 : List D) (n3 : Int) (n4 : Int) (l5 : List D) (l6 : List D) : evL Γ W10 lab 10 11 ⟨[(1, .s s1), (6, .sl 44 .any l2), (8, .ref 4 0), (9, .i .i64 n3), (10, .ref 4 1), (11, .i .i64 n4)], [some (.arr 4 l5 false), some (.arr 4 l6 false)]⟩ =
  bif decide (n4 ≥ 0) then (idx l2 n3 fun y7 => dAgg y7 fun y8 => lGet y8 0 fun y9 => dInt .i64 y9 fun n10 => bif n10 == 2 then (bif decide ((0:Int) ≤ n4) && decide (n4 < (l5.length : Int)) then (lGet l5 (Int.toNat n4) fun y11 => dBool y11 fun b12 => bif b12 then (bif decide ((0:Int) ≤ n4) && decide (n4 < (l6.length : Int)) then (lGet l6 (Int.toNat n4) fun y13 => lab (todoAt Γ 10 11) ⟨[(1, .s s1), (6, .sl 44 .any l2), (8, .ref 4 0), (9, .i .i64 n3), (10, .ref 4 1), (11, .i .i64 (IntKind.wrap .i64 (n4 - 1)))], [some (.arr 4 l5 false), some (.arr 4 (List.set l6 (Int.toNat n4) (D.bool true)) false)]⟩) else none) else (bif decide (n4 < ((List.length s1 : Int))) then (bif decide ((0:Int) ≤ (IntKind.wrap .i64 (n4 + 1))) && decide ((IntKind.wrap .i64 (n4 + 1)) < (l6.length : Int)) then (lGet l6 (Int.toNat (IntKind.wrap .i64 (n4 + 1))) fun y14 => dBool y14 fun b15 => bif decide ((0:Int) ≤ n4) && decide (n4 < (l6.length : Int)) then (lGet l6 (Int.toNat n4) fun y16 => lab (todoAt Γ 10 11) ⟨[(1, .s s1), (6, .sl 44 .any l2), (8, .ref 4 0), (9, .i .i64 n3), (10, .ref 4 1), (11, .i .i64 (IntKind.wrap .i64 (n4 - 1)))], [some (.arr 4 l5 false), some (.arr 4 (List.set l6 (Int.toNat n4) (D.bool b15)) false)]⟩) else none) else none) else (bif decide ((0:Int) ≤ n4) && decide (n4 < (l6.length : Int)) then (lGet l6 (Int.toNat n4) fun y17 => lab (todoAt Γ 10 11) ⟨[(1, .s s1), (6, .sl 44 .any l2), (8, .ref 4 0), (9, .i .i64 n3), (10, .ref 4 1), (11, .i .i64 (IntKind.wrap .i64 (n4 - 1)))], [some (.arr 4 l5 false), some (.arr 4 (List.set l6 (Int.toNat n4) (D.bool false)) false)]⟩) else none))) else none) else (bif decide (n4 < ((List.length s1 : Int))) then (bif decide ((0:Int) ≤ (IntKind.wrap .i64 (n4 + 1))) && decide ((IntKind.wrap .i64 (n4 + 1)) < (l5.length : Int)) then (lGet l5 (Int.toNat (IntKind.wrap .i64 (n4 + 1))) fun y18 => dBool y18 fun b19 => bif b19 then (idx l2 n3 fun y20 => dAgg y20 fun y21 => lGet y21 0 fun y22 => dInt .i64 y22 fun n23 => bif n23 == 1 then (bif decide ((0:Int) ≤ n4) && decide (n4 < (l6.length : Int)) then (lGet l6 (Int.toNat n4) fun y24 => lab (todoAt Γ 10 11) ⟨[(1, .s s1), (6, .sl 44 .any l2), (8, .ref 4 0), (9, .i .i64 n3), (10, .ref 4 1), (11, .i .i64 (IntKind.wrap .i64 (n4 - 1)))], [some (.arr 4 l5 false), some (.arr 4 (List.set l6 (Int.toNat n4) (D.bool true)) false)]⟩) else none) else (idx l2 n3 fun y25 => dAgg y25 fun y26 => lGet y26 1 fun y27 => dInt .u8 y27 fun n28 => idx s1 n4 fun c29 => bif decide ((0:Int) ≤ n4) && decide (n4 < (l6.length : Int)) then (lGet l6 (Int.toNat n4) fun y30 => lab (todoAt Γ 10 11) ⟨[(1, .s s1), (6, .sl 44 .any l2), (8, .ref 4 0), (9, .i .i64 n3), (10, .ref 4 1), (11, .i .i64 (IntKind.wrap .i64 (n4 - 1)))], [some (.arr 4 l5 false), some (.arr 4 (List.set l6 (Int.toNat n4) (D.bool (n28 == ((c29.toNat : Int))))) false)]⟩) else none)) else (bif decide ((0:Int) ≤ n4) && decide (n4 < (l6.length : Int)) then (lGet l6 (Int.toNat n4) fun y31 => lab (todoAt Γ 10 11) ⟨[(1, .s s1), (6, .sl 44 .any l2), (8, .ref 4 0), (9, .i .i64 n3), (10, .ref 4 1), (11, .i .i64 (IntKind.wrap .i64 (n4 - 1)))], [some (.arr 4 l5 false), some (.arr 4 (List.set l6 (Int.toNat n4) (D.bool false)) false)]⟩) else none)) else none) else (lab (todoAt Γ 10 11) ⟨[(1, .s s1), (6, .sl 44 .any l2), (8, .ref 4 0), (9, .i .i64 n3), (10, .ref 4 1), (11, .i .i64 (IntKind.wrap .i64 (n4 - 1)))], [some (.arr 4 l5 false), some (.arr 4 l6 false)]⟩))) else (lab (todoAt Γ 10 7) ⟨[(1, .s s1), (6, .sl 44 .any l2), (8, .ref 4 0), (9, .i .i64 (IntKind.wrap .i64 (n3 - 1)))], [some (.arr 4 l6 false)]⟩) := by kernel_rfl
def W11 : Handle := runS [⟨19, dat (sp1 short fun p => .tuple [.sl 37 .any (gpl p), .b (okP p)])⟩]
theorem w11 (lab : Lab) (p : List UInt8) : evF Γ W11 lab 11 [.s p] [] =
  bif short p then (some (.b (okP p), [])) else none := by kernel_rfl
def W12 : Handle := runS [⟨21, dat (sp1 short fun p => .tuple [.sl 44 .any (rpl p), .b (okP p)])⟩]
theorem w12 (lab : Lab) (p : List UInt8) : evF Γ W12 lab 12 [.s p] [] =
  bif short p then (some (.b (okP p), [])) else none := by kernel_rfl
def W14 : Handle := runS [⟨19, dat (sp1 short fun p => .tuple [.sl 37 .any (gpl p), .b (okP p)])⟩]
theorem w14 (lab : Lab) (p : List UInt8) : evF Γ W14 lab 14 [.s p] [] =
  bif short p then (lab (todoAt Γ 14 4) ⟨[(5, .b (okP p)), (6, .snil), (14, .sl 37 .any ((gpl p))), (15, .i .i64 ((((gpl p)).length : Int))), (16, .i .i64 0)], []⟩) else none := by kernel_rfl
theorem w14_4a (lab : Lab) (b1 : Bool) (l2 : List D) (n3 : Int) (n4 : Int) : evL Γ W14 lab 14 4 ⟨[(5, .b b1), (6, .snil), (14, .sl 37 .any l2), (15, .i .i64 n3), (16, .i .i64 n4)], []⟩ =
  bif decide (n4 < n3) then (idx l2 n4 fun y5 => dAgg y5 fun y6 => lCons y6 fun a7 r8 => dInt .i64 a7 fun n9 => lCons r8 fun a10 r11 => dInt .u8 a10 fun n12 => lNil r11 (bif n9 != 0 then (some (.tuple [.s ([] : List UInt8), .b false], [])) else (lab (todoAt Γ 14 4) ⟨[(5, .b b1), (6, .ref 5 0), (14, .sl 37 .any l2), (15, .i .i64 n3), (16, .i .i64 (IntKind.wrap .i64 (n4 + 1)))], [some (.arr 5 [D.int .u8 n12] false)]⟩))) else (some (.tuple [.s ([] : List UInt8), .b b1], [])) := by kernel_rfl
theorem w14_4b (lab : Lab) (b1 : Bool) (l2 : List D) (n3 : Int) (n4 : Int) (l5 : List D) : evL Γ W14 lab 14 4 ⟨[(5, .b b1), (6, .ref 5 0), (14, .sl 37 .any l2), (15, .i .i64 n3), (16, .i .i64 n4)], [some (.arr 5 l5 false)]⟩ =
  bif decide (n4 < n3) then (idx l2 n4 fun y6 => dAgg y6 fun y7 => lCons y7 fun a8 r9 => dInt .i64 a8 fun n10 => lCons r9 fun a11 r12 => dInt .u8 a11 fun n13 => lNil r12 (bif n10 != 0 then (some (.tuple [.s ([] : List UInt8), .b false], [])) else (bif roomB (l5.length + 1) 1 then (lab (todoAt Γ 14 4) ⟨[(5, .b b1), (6, .ref 5 0), (14, .sl 37 .any l2), (15, .i .i64 n3), (16, .i .i64 (IntKind.wrap .i64 (n4 + 1)))], [some (.arr 5 (l5 ++ [D.int .u8 n13]) false)]⟩) else none))) else (kBytes l5 fun s14 => some (.tuple [.s s14, .b b1], [])) := by kernel_rfl
def W17 : Handle := runS [⟨21, dat (sp1 short fun p => .tuple [.sl 44 .any (rpl p), .b (okP p)])⟩]
theorem w17 (lab : Lab) (p : List UInt8) : evF Γ W17 lab 17 [.s p] [] =
  bif short p then (lab (todoAt Γ 17 4) ⟨[(4, .sl 44 .any ((rpl p))), (5, .b (okP p)), (6, .s ([] : List UInt8)), (7, .i .i64 0)], []⟩) else none := by kernel_rfl
theorem w17_4a (lab : Lab) (l1 : List D) (b2 : Bool) (s3 : List UInt8) (n4 : Int) : evL Γ W17 lab 17 4 ⟨[(4, .sl 44 .any l1), (5, .b b2), (6, .s s3), (7, .i .i64 n4)], []⟩ =
  bif decide (n4 < ((l1.length : Int))) then (idx l1 n4 fun y5 => dAgg y5 fun y6 => lGet y6 0 fun y7 => dInt .i64 y7 fun n8 => bif n8 != 0 then (some (.tuple [.s ([] : List UInt8), .b false], [])) else (idx l1 n4 fun y9 => dAgg y9 fun y10 => lGet y10 1 fun y11 => dInt .u8 y11 fun n12 => kBytes [D.int .u8 n12] fun s13 => bif decide (List.length s3 + List.length s13 ≤ maxStr) then (lab (todoAt Γ 17 4) ⟨[(4, .sl 44 .any l1), (5, .b b2), (6, .s (s3 ++ s13)), (7, .i .i64 (IntKind.wrap .i64 (n4 + 1)))], []⟩) else none)) else (bif !b2 then (some (.tuple [.s ([] : List UInt8), .b false], [])) else (some (.tuple [.s s3, .b true], []))) := by kernel_rfl
def W15 : Handle := runS [⟨19, dat (sp1 short fun p => .tuple [.sl 37 .any (gpl p), .b (okP p)])⟩]
theorem w15 (lab : Lab) (p : List UInt8) : evF Γ W15 lab 15 [.s p] [] =
  bif short p then (bif !(okP p) then (some (.tuple [.i .i64 0, .i .i64 2], [])) else (lab (todoAt Γ 15 6) ⟨[(6, .i .i64 0), (16, .sl 37 .any ((gpl p))), (17, .i .i64 ((((gpl p)).length : Int))), (18, .i .i64 0)], []⟩)) else none := by kernel_rfl
theorem w15_6a (lab : Lab) (n1 : Int) (l2 : List D) (n3 : Int) (n4 : Int) : evL Γ W15 lab 15 6 ⟨[(6, .i .i64 n1), (16, .sl 37 .any l2), (17, .i .i64 n3), (18, .i .i64 n4)], []⟩ =
  bif decide (n4 < n3) then (idx l2 n4 fun y5 => dAgg y5 fun y6 => lCons y6 fun a7 r8 => dInt .i64 a7 fun n9 => lCons r8 fun a10 r11 => dInt .u8 a10 fun n12 => lNil r11 (bif n9 != 2 then (lab (todoAt Γ 15 6) ⟨[(6, .i .i64 (IntKind.wrap .i64 (n1 + 1))), (16, .sl 37 .any l2), (17, .i .i64 n3), (18, .i .i64 (IntKind.wrap .i64 (n4 + 1)))], []⟩) else (lab (todoAt Γ 15 6) ⟨[(6, .i .i64 n1), (16, .sl 37 .any l2), (17, .i .i64 n3), (18, .i .i64 (IntKind.wrap .i64 (n4 + 1)))], []⟩))) else (some (.tuple [.i .i64 n1, .i .i64 0], [])) := by kernel_rfl
def W16 : Handle := runS [⟨21, dat (sp1 short fun p => .tuple [.sl 44 .any (rpl p), .b (okP p)])⟩]
theorem w16 (lab : Lab) (p : List UInt8) : evF Γ W16 lab 16 [.s p] [] =
  bif short p then (bif !(okP p) then (some (.tuple [.i .i64 0, .i .i64 2], [])) else (lab (todoAt Γ 16 6) ⟨[(4, .sl 44 .any ((rpl p))), (6, .i .i64 0), (7, .i .i64 0)], []⟩)) else none := by kernel_rfl
theorem w16_6a (lab : Lab) (l1 : List D) (n2 : Int) (n3 : Int) : evL Γ W16 lab 16 6 ⟨[(4, .sl 44 .any l1), (6, .i .i64 n2), (7, .i .i64 n3)], []⟩ =
  bif decide (n3 < ((l1.length : Int))) then (idx l1 n3 fun y4 => dAgg y4 fun y5 => lGet y5 0 fun y6 => dInt .i64 y6 fun n7 => bif decide (n7 < 2) then (lab (todoAt Γ 16 6) ⟨[(4, .sl 44 .any l1), (6, .i .i64 (IntKind.wrap .i64 (n2 + 1))), (7, .i .i64 (IntKind.wrap .i64 (n3 + 1)))], []⟩) else (lab (todoAt Γ 16 6) ⟨[(4, .sl 44 .any l1), (6, .i .i64 n2), (7, .i .i64 (IntKind.wrap .i64 (n3 + 1)))], []⟩)) else (some (.tuple [.i .i64 n2, .i .i64 0], [])) := by kernel_rfl
theorem w18 (lab : Lab) (s : List UInt8) : evF Γ (runS []) lab 18 [.s s] [] =
  lab (todoAt Γ 18 3) ⟨[(0, .s s), (3, .s ([] : List UInt8)), (4, .i .i64 0)], []⟩ := by kernel_rfl
theorem w18_3a (lab : Lab) (s1 : List UInt8) (s2 : List UInt8) (n3 : Int) : evL Γ (runS []) lab 18 3 ⟨[(0, .s s1), (3, .s s2), (4, .i .i64 n3)], []⟩ =
  bif decide (n3 < ((List.length s1 : Int))) then (idx s1 n3 fun c4 => bif ((c4.toNat : Int)) == 42 then (bif decide (List.length s2 + List.length ([92] : List UInt8) ≤ maxStr) then (bif decide ((0:Int) ≤ (IntKind.wrap .i64 (n3 + 1))) && decide ((IntKind.wrap .i64 (n3 + 1)) ≤ (List.length s1 : Int)) then (bif decide ((0:Int) ≤ n3) && decide (n3 ≤ (Int.toNat (IntKind.wrap .i64 (n3 + 1)) : Int)) then (bif decide (List.length (s2 ++ ([92] : List UInt8)) + List.length (List.take ((Int.toNat (IntKind.wrap .i64 (n3 + 1))) - (Int.toNat n3)) (List.drop (Int.toNat n3) s1)) ≤ maxStr) then (lab (todoAt Γ 18 3) ⟨[(0, .s s1), (3, .s ((s2 ++ ([92] : List UInt8)) ++ (List.take ((Int.toNat (IntKind.wrap .i64 (n3 + 1))) - (Int.toNat n3)) (List.drop (Int.toNat n3) s1)))), (4, .i .i64 (IntKind.wrap .i64 (n3 + 1)))], []⟩) else none) else none) else none) else none) else (idx s1 n3 fun c5 => bif ((c5.toNat : Int)) == 63 then (bif decide (List.length s2 + List.length ([92] : List UInt8) ≤ maxStr) then (bif decide ((0:Int) ≤ (IntKind.wrap .i64 (n3 + 1))) && decide ((IntKind.wrap .i64 (n3 + 1)) ≤ (List.length s1 : Int)) then (bif decide ((0:Int) ≤ n3) && decide (n3 ≤ (Int.toNat (IntKind.wrap .i64 (n3 + 1)) : Int)) then (bif decide (List.length (s2 ++ ([92] : List UInt8)) + List.length (List.take ((Int.toNat (IntKind.wrap .i64 (n3 + 1))) - (Int.toNat n3)) (List.drop (Int.toNat n3) s1)) ≤ maxStr) then (lab (todoAt Γ 18 3) ⟨[(0, .s s1), (3, .s ((s2 ++ ([92] : List UInt8)) ++ (List.take ((Int.toNat (IntKind.wrap .i64 (n3 + 1))) - (Int.toNat n3)) (List.drop (Int.toNat n3) s1)))), (4, .i .i64 (IntKind.wrap .i64 (n3 + 1)))], []⟩) else none) else none) else none) else none) else (idx s1 n3 fun c6 => bif ((c6.toNat : Int)) == 92 then (bif decide (List.length s2 + List.length ([92] : List UInt8) ≤ maxStr) then (bif decide ((0:Int) ≤ (IntKind.wrap .i64 (n3 + 1))) && decide ((IntKind.wrap .i64 (n3 + 1)) ≤ (List.length s1 : Int)) then (bif decide ((0:Int) ≤ n3) && decide (n3 ≤ (Int.toNat (IntKind.wrap .i64 (n3 + 1)) : Int)) then (bif decide (List.length (s2 ++ ([92] : List UInt8)) + List.length (List.take ((Int.toNat (IntKind.wrap .i64 (n3 + 1))) - (Int.toNat n3)) (List.drop (Int.toNat n3) s1)) ≤ maxStr) then (lab (todoAt Γ 18 3) ⟨[(0, .s s1), (3, .s ((s2 ++ ([92] : List UInt8)) ++ (List.take ((Int.toNat (IntKind.wrap .i64 (n3 + 1))) - (Int.toNat n3)) (List.drop (Int.toNat n3) s1)))), (4, .i .i64 (IntKind.wrap .i64 (n3 + 1)))], []⟩) else none) else none) else none) else none) else (bif decide ((0:Int) ≤ (IntKind.wrap .i64 (n3 + 1))) && decide ((IntKind.wrap .i64 (n3 + 1)) ≤ (List.length s1 : Int)) then (bif decide ((0:Int) ≤ n3) && decide (n3 ≤ (Int.toNat (IntKind.wrap .i64 (n3 + 1)) : Int)) then (bif decide (List.length s2 + List.length (List.take ((Int.toNat (IntKind.wrap .i64 (n3 + 1))) - (Int.toNat n3)) (List.drop (Int.toNat n3) s1)) ≤ maxStr) then (lab (todoAt Γ 18 3) ⟨[(0, .s s1), (3, .s (s2 ++ (List.take ((Int.toNat (IntKind.wrap .i64 (n3 + 1))) - (Int.toNat n3)) (List.drop (Int.toNat n3) s1)))), (4, .i .i64 (IntKind.wrap .i64 (n3 + 1)))], []⟩) else none) else none) else none)))) else (some (.s s2, [])) := by kernel_rfl
end Go.Proofs.Ytbdekjlnnbjicaa.V

/- Contracts: pieces of a pattern, a piece against a byte, counting. -/
namespace Go.Proofs.Ytbdekjlnnbjicaa.V
open Go
set_option maxRecDepth 100000
set_option linter.unusedVariables false
set_option linter.unusedSimpArgs false

theorem is42 (c : UInt8) : ((c.toNat : Int) == 42) = decide (c = 42) := by
  rw [Bool.eq_iff_iff]; simp only [beq_iff_eq, decide_eq_true_eq]
  constructor
  · intro h; exact UInt8.toNat_inj.1 (by show c.toNat = 42; omega)
  · rintro rfl; rfl
theorem is63 (c : UInt8) : ((c.toNat : Int) == 63) = decide (c = 63) := by
  rw [Bool.eq_iff_iff]; simp only [beq_iff_eq, decide_eq_true_eq]
  constructor
  · intro h; exact UInt8.toNat_inj.1 (by show c.toNat = 63; omega)
  · rintro rfl; rfl
theorem is92 (c : UInt8) : ((c.toNat : Int) == 92) = decide (c = 92) := by
  rw [Bool.eq_iff_iff]; simp only [beq_iff_eq, decide_eq_true_eq]
  constructor
  · intro h; exact UInt8.toNat_inj.1 (by show c.toNat = 92; omega)
  · rintro rfl; rfl
theorem room16 {n : Nat} (h : n ≤ 1000000) : roomB n 16 = true := by
  unfold roomB
  simp only [Bool.and_eq_true, decide_eq_true_eq]
  exact ⟨rfl, by omega⟩
theorem mid_get (pre : Tx) (c : UInt8) (rest : Tx) : (pre ++ c :: rest)[(pre.length : Int).toNat]? = some c := by simp
theorem mid_get2 (pre : Tx) (c d : UInt8) (rest : Tx) : (pre ++ c :: d :: rest)[((pre.length : Int) + 1).toNat]? = some d := by
  rw [show ((pre.length : Int) + 1).toNat = pre.length + 1 by omega, List.getElem?_append_right (by omega)]
  simp
theorem w_next (pre : Tx) (c : UInt8) (h : pre.length ≤ 1000000000) : IntKind.wrap .i64 ((pre.length : Int) + 1) = ((pre ++ [c]).length : Int) := by
  rw [wrapI (by omega) (by omega)]; simp
theorem w_next2 (pre : Tx) (c d : UInt8) (h : pre.length ≤ 1000000000) : IntKind.wrap .i64 (((pre.length : Int) + 1) + 1) = ((pre ++ [c, d]).length : Int) := by
  rw [wrapI (by omega) (by omega)]; simp; omega
theorem w_one (pre : Tx) (h : pre.length ≤ 1000000000) : IntKind.wrap .i64 ((pre.length : Int) + 1) = (pre.length : Int) + 1 := wrapI (by omega) (by omega)

/-! ### glob.pieces -/
def res19 (l : List D) (rest : Tx) : AV × Objs := bif (pcs rest).2 then (.tuple [.sl 37 .any (l ++ (pcs rest).1.map dpc), .b true], []) else (.tuple [.snil, .b false], [])
theorem res19_cons {l : List D} {s r : Tx} {p : Pc} (h : pcs s = (p :: (pcs r).1, (pcs r).2)) : res19 l s = res19 (l ++ [dpc p]) r := by
  unfold res19
  rw [h]
  simp
theorem g19b : ∀ (n : Nat) (rest pre : Tx) (l : List D), rest.length ≤ n → (pre ++ rest).length ≤ 200 → l.length ≤ pre.length →
    Goes Γ (runS []) 19 5 ⟨[(0, .s (pre ++ rest)), (4, .ref 37 0), (5, .i .i64 (pre.length : Int))], [some (.arr 37 l false)]⟩ (res19 l rest)
  | _, [], pre, l, _, _, _ => by
    refine Goes.er (er_of (fun q => w19_5b _ _ _ _) (er_f (decide_eq_false (by rw [List.append_nil]; omega)) (er_is ?_)))
    simp [res19, pcs_nil]
  | 0, _ :: _, _, _, h, _, _ => by simp at h
  | n + 1, c :: rest, pre, l, hn, hl, hp => by
    have hlen : (pre ++ c :: rest).length = pre.length + rest.length + 1 := by simp; omega
    refine Goes.er (er_of (fun q => w19_5b _ _ _ _) (er_t (decide_eq_true (by omega)) (er_idx (by omega) (mid_get pre c rest) ?_)))
    have step : c ≠ 92 → Goes Γ (runS []) 19 5 ⟨[(0, .s (pre ++ c :: rest)), (4, .ref 37 0), (5, .i .i64 (IntKind.wrap .i64 ((pre.length : Int) + 1)))], [some (.arr 37 (l ++ [dpc (pcOf c)]) false)]⟩ (res19 l (c :: rest)) := fun hc => by
      rw [w_next pre c (by omega), res19_cons (pcs_cons hc rest)]
      have ih := g19b n rest (pre ++ [c]) (l ++ [dpc (pcOf c)]) (by simp at hn; omega) (by simp at hl ⊢; omega) (by simp; omega)
      rw [List.append_assoc] at ih
      exact ih
    by_cases h42 : c = 42
    · have := step (by rw [h42]; decide)
      rw [show pcOf c = .many by rw [h42]; rfl] at this
      exact er_t (by rw [is42, decide_eq_true h42]) (er_t (room16 (by omega)) (er_lab this))
    refine er_f (by rw [is42, decide_eq_false h42]) ?_
    by_cases h63 : c = 63
    · have := step (by rw [h63]; decide)
      rw [show pcOf c = .one by rw [h63]; rfl] at this
      exact er_t (by rw [is63, decide_eq_true h63]) (er_t (room16 (by omega)) (er_lab this))
    refine er_f (by rw [is63, decide_eq_false h63]) ?_
    by_cases h92 : c = 92
    · refine er_t (by rw [is92, decide_eq_true h92]) ?_
      rw [w_one pre (by omega)]
      cases rest with
      | nil =>
        refine er_t (by rw [beq_iff_eq]; simp) (er_is ?_)
        rw [h92]; rfl
      | cons d rest =>
        refine er_f (by rw [beq_eq_false_iff_ne]; simp at hlen ⊢; omega) (er_idx (by omega) (mid_get2 pre c d rest) (er_t (room16 (by omega)) (er_lab ?_)))
        rw [w_next2 pre c d (by omega), res19_cons (p := .ex d) (r := rest) (by rw [h92, pcs_esc])]
        have ih := g19b n rest (pre ++ [c, d]) (l ++ [dpc (.ex d)]) (by simp at hn; omega) (by simp at hl ⊢; omega) (by simp; omega)
        rw [List.append_assoc] at ih
        exact ih
    · refine er_f (by rw [is92, decide_eq_false h92]) (er_idx (by omega) (mid_get pre c rest) (er_t (room16 (by omega)) (er_lab ?_)))
      have := step h92
      rw [show pcOf c = .ex c by simp [pcOf, h42, h63]] at this
      exact this
theorem g19a (p : Tx) (hl : p.length ≤ 200) : Goes Γ (runS []) 19 5 ⟨[(0, .s p), (4, .snil), (5, .i .i64 0)], []⟩ (bif p.isEmpty then (.tuple [.snil, .b true], []) else res19 [] p) := by
  cases p with
  | nil => exact Goes.er (er_of (fun q => w19_5a _ _ _) (er_f rfl (er_is rfl)))
  | cons c rest =>
    simp only [List.length_cons] at hl
    refine Goes.er (er_of (fun q => w19_5a _ _ _) (er_t (decide_eq_true (by simp <;> omega)) (er_idx (by omega) (mid_get [] c rest) ?_)))
    show EXR (res19 [] (c :: rest)) _
    have step : c ≠ 92 → Goes Γ (runS []) 19 5 ⟨[(0, .s (c :: rest)), (4, .ref 37 0), (5, .i .i64 (IntKind.wrap .i64 (0 + 1)))], [some (.arr 37 [dpc (pcOf c)] false)]⟩ (res19 [] (c :: rest)) := fun hc => by
      rw [res19_cons (pcs_cons hc rest)]
      exact g19b _ rest [c] [dpc (pcOf c)] (Nat.le_refl _) (by simp; omega) (by simp)
    by_cases h42 : c = 42
    · have := step (by rw [h42]; decide)
      rw [show pcOf c = .many by rw [h42]; rfl] at this
      exact er_t (by rw [is42, decide_eq_true h42]) (er_lab this)
    refine er_f (by rw [is42, decide_eq_false h42]) ?_
    by_cases h63 : c = 63
    · have := step (by rw [h63]; decide)
      rw [show pcOf c = .one by rw [h63]; rfl] at this
      exact er_t (by rw [is63, decide_eq_true h63]) (er_lab this)
    refine er_f (by rw [is63, decide_eq_false h63]) ?_
    by_cases h92 : c = 92
    · refine er_t (by rw [is92, decide_eq_true h92]) ?_
      cases rest with
      | nil =>
        refine er_t rfl (er_is ?_)
        rw [h92]; rfl
      | cons d rest =>
        refine er_f (by rw [show IntKind.wrap .i64 (0 + 1) = 1 from rfl, beq_eq_false_iff_ne]; simp only [List.length_cons]; omega) (er_idx (by decide) (mid_get2 [] c d rest) (er_lab ?_))
        rw [res19_cons (p := .ex d) (r := rest) (by rw [h92, pcs_esc])]
        exact g19b _ rest [c, d] [dpc (.ex d)] (Nat.le_refl _) (by simp only [List.cons_append, List.nil_append, List.length_cons] at *; omega) (by simp)
    · refine er_f (by rw [is92, decide_eq_false h92]) (er_idx (by omega) (mid_get [] c rest) (er_lab ?_))
      have := step h92
      rw [show pcOf c = .ex c by simp [pcOf, h42, h63]] at this
      exact this
theorem wk_nil {b : Bool} : WkA Γ.P (.tuple [.snil, .b b]) (.tuple [.sl 37 .any [], .b b]) := WkA.tuple (.cons (WkA.nil 37) (.cons (WkA.refl _) .nil))
theorem sp19_ok : SpecOK Γ ⟨19, dat (sp1 short fun p => .tuple [.sl 37 .any (gpl p), .b (okP p)])⟩ := sp1_ok fun p hp => by
  by_cases hl : p.length ≤ 200
  · have h : EXR (bif p.isEmpty then (.tuple [.snil, .b true], []) else res19 [] p) fun q => evF Γ (runS []) (L Γ (runS []) 19 q) 19 [.s p] [] :=
      er_of (fun q => w19 _ _) (er_f (decide_eq_false (by omega)) (er_lab (g19a p hl)))
    have ok : okP p = (pcs p).2 := by unfold okP; rw [decide_eq_true hl]; rfl
    cases p with
    | nil =>
      obtain ⟨k, hk⟩ := h
      exact (ret_goes (Γ := Γ) hP hZ none_ok (by kernel_rfl) ⟨k, hk⟩).wk wk_nil
    | cons c r =>
      obtain ⟨k, hk⟩ := h
      have hk : evF Γ (runS []) (L Γ (runS []) 19 k) 19 [.s (c :: r)] [] = some (res19 [] (c :: r)) := hk
      unfold gpl
      rw [ok]
      unfold res19 at hk
      cases h2 : (pcs (c :: r)).2 with
      | true =>
        rw [h2] at hk
        exact ret_goes (Γ := Γ) hP hZ none_ok (by kernel_rfl) ⟨k, hk⟩
      | false =>
        rw [h2] at hk
        exact (ret_goes (Γ := Γ) hP hZ none_ok (by kernel_rfl) ⟨k, hk⟩).wk wk_nil
  · have h : EXR (.tuple [.snil, .b false], []) fun q => evF Γ (runS []) (L Γ (runS []) 19 q) 19 [.s p] [] :=
      er_of (fun q => w19 _ _) (er_t (decide_eq_true (by omega)) (er_is rfl))
    have ok : okP p = false := by unfold okP; rw [decide_eq_false hl]; rfl
    obtain ⟨k, hk⟩ := h
    unfold gpl
    rw [ok]
    exact (ret_goes (Γ := Γ) hP hZ none_ok (by kernel_rfl) ⟨k, hk⟩).wk wk_nil
/-! ### the document's pieces -/
def res21 (l : List D) (rest : Tx) : AV × Objs := (.tuple [.sl 44 .any (l ++ (pcs rest).1.map dpc), .b (pcs rest).2], [])
theorem res21_cons {l : List D} {s r : Tx} {p : Pc} (h : pcs s = (p :: (pcs r).1, (pcs r).2)) : res21 l s = res21 (l ++ [dpc p]) r := by
  unfold res21
  rw [h]
  simp
theorem g21b : ∀ (n : Nat) (rest pre : Tx) (l : List D), rest.length ≤ n → (pre ++ rest).length ≤ 200 → l.length ≤ pre.length →
    Goes Γ (runS []) 21 5 ⟨[(0, .s (pre ++ rest)), (4, .ref 44 0), (5, .i .i64 (pre.length : Int))], [some (.arr 44 l false)]⟩ (res21 l rest)
  | _, [], pre, l, _, _, _ => by
    refine Goes.er (er_of (fun q => w21_5b _ _ _ _) (er_f (decide_eq_false (by rw [List.append_nil]; omega)) (er_is ?_)))
    simp [res21, pcs_nil]
  | 0, _ :: _, _, _, h, _, _ => by simp at h
  | n + 1, c :: rest, pre, l, hn, hl, hp => by
    have hlen : (pre ++ c :: rest).length = pre.length + rest.length + 1 := by simp; omega
    refine Goes.er (er_of (fun q => w21_5b _ _ _ _) (er_t (decide_eq_true (by omega)) (er_idx (by omega) (mid_get pre c rest) ?_)))
    have step : c ≠ 92 → Goes Γ (runS []) 21 5 ⟨[(0, .s (pre ++ c :: rest)), (4, .ref 44 0), (5, .i .i64 (IntKind.wrap .i64 ((pre.length : Int) + 1)))], [some (.arr 44 (l ++ [dpc (pcOf c)]) false)]⟩ (res21 l (c :: rest)) := fun hc => by
      rw [w_next pre c (by omega), res21_cons (pcs_cons hc rest)]
      have ih := g21b n rest (pre ++ [c]) (l ++ [dpc (pcOf c)]) (by simp at hn; omega) (by simp at hl ⊢; omega) (by simp; omega)
      rw [List.append_assoc] at ih
      exact ih
    by_cases h42 : c = 42
    · have := step (by rw [h42]; decide)
      rw [show pcOf c = .many by rw [h42]; rfl] at this
      exact er_t (by rw [is42, decide_eq_true h42]) (er_t (room16 (by omega)) (er_lab this))
    refine er_f (by rw [is42, decide_eq_false h42]) ?_
    by_cases h63 : c = 63
    · have := step (by rw [h63]; decide)
      rw [show pcOf c = .one by rw [h63]; rfl] at this
      exact er_t (by rw [is63, decide_eq_true h63]) (er_t (room16 (by omega)) (er_lab this))
    refine er_f (by rw [is63, decide_eq_false h63]) ?_
    by_cases h92 : c = 92
    · refine er_t (by rw [is92, decide_eq_true h92]) ?_
      rw [wrapI (n := ((pre ++ c :: rest).length : Int) - 1) (by omega) (by omega)]
      cases rest with
      | nil =>
        refine er_t (by rw [beq_iff_eq]; simp) (er_is ?_)
        rw [h92]; simp [res21, pcs_end]
      | cons d rest =>
        rw [w_one pre (by omega)]
        refine er_f (by rw [beq_eq_false_iff_ne]; simp at hlen ⊢; omega) (er_idx (by omega) (mid_get2 pre c d rest) (er_t (room16 (by omega)) (er_lab ?_)))
        rw [w_next2 pre c d (by omega), res21_cons (p := .ex d) (r := rest) (by rw [h92, pcs_esc])]
        have ih := g21b n rest (pre ++ [c, d]) (l ++ [dpc (.ex d)]) (by simp at hn; omega) (by simp at hl ⊢; omega) (by simp; omega)
        rw [List.append_assoc] at ih
        exact ih
    · refine er_f (by rw [is92, decide_eq_false h92]) (er_idx (by omega) (mid_get pre c rest) (er_t (room16 (by omega)) (er_lab ?_)))
      have := step h92
      rw [show pcOf c = .ex c by simp [pcOf, h42, h63]] at this
      exact this
theorem wk_ex {b : Bool} : WkA Γ.P (.tuple [.sl 44 .ex [], .b b]) (.tuple [.sl 44 .any [], .b b]) := WkA.tuple (.cons (WkA.sl 44 .ex []) (.cons (WkA.refl _) .nil))
theorem g21a (c : UInt8) (rest : Tx) (hl : (c :: rest).length ≤ 200) (hno : ¬ (c = 92 ∧ rest = [])) : Goes Γ (runS []) 21 5 ⟨[(0, .s (c :: rest)), (4, .sl 44 .ex []), (5, .i .i64 0)], []⟩ (res21 [] (c :: rest)) := by
  simp only [List.length_cons] at hl
  refine Goes.er (er_of (fun q => w21_5a _ _ _ _) (er_t (decide_eq_true (by simp <;> omega)) (er_idx (by omega) (mid_get [] c rest) ?_)))
  have step : c ≠ 92 → Goes Γ (runS []) 21 5 ⟨[(0, .s (c :: rest)), (4, .ref 44 0), (5, .i .i64 (IntKind.wrap .i64 (0 + 1)))], [some (.arr 44 ([] ++ [dpc (pcOf c)]) false)]⟩ (res21 [] (c :: rest)) := fun hc => by
    rw [res21_cons (pcs_cons hc rest)]
    exact g21b _ rest [c] [dpc (pcOf c)] (Nat.le_refl _) (by simp; omega) (by simp)
  by_cases h42 : c = 42
  · have := step (by rw [h42]; decide)
    rw [show pcOf c = .many by rw [h42]; rfl] at this
    exact er_t (by rw [is42, decide_eq_true h42]) (er_t (room16 (by decide)) (er_lab this))
  refine er_f (by rw [is42, decide_eq_false h42]) ?_
  by_cases h63 : c = 63
  · have := step (by rw [h63]; decide)
    rw [show pcOf c = .one by rw [h63]; rfl] at this
    exact er_t (by rw [is63, decide_eq_true h63]) (er_t (room16 (by decide)) (er_lab this))
  refine er_f (by rw [is63, decide_eq_false h63]) ?_
  by_cases h92 : c = 92
  · refine er_t (by rw [is92, decide_eq_true h92]) ?_
    cases rest with
    | nil => exact absurd ⟨h92, rfl⟩ hno
    | cons d rest =>
      simp only [List.length_cons] at hl
      refine er_f (by rw [wrapI (by simp only [List.length_cons]; omega) (by simp only [List.length_cons]; omega), beq_eq_false_iff_ne]; simp only [List.length_cons]; omega) (er_idx (by decide) (mid_get2 [] c d rest) (er_t (room16 (by decide)) (er_lab ?_)))
      rw [res21_cons (p := .ex d) (r := rest) (by rw [h92, pcs_esc])]
      exact g21b _ rest [c, d] [dpc (.ex d)] (Nat.le_refl _) (by simp only [List.cons_append, List.nil_append, List.length_cons] at *; omega) (by simp)
  · refine er_f (by rw [is92, decide_eq_false h92]) (er_idx (by omega) (mid_get [] c rest) (er_t (room16 (by decide)) (er_lab ?_)))
    have := step h92
    rw [show pcOf c = .ex c by simp [pcOf, h42, h63]] at this
    exact this
theorem sp21_ok : SpecOK Γ ⟨21, dat (sp1 short fun p => .tuple [.sl 44 .any (rpl p), .b (okP p)])⟩ := sp1_ok fun p hp => by
  by_cases hl : p.length ≤ 200
  · have ok : okP p = (pcs p).2 := by unfold okP; rw [decide_eq_true hl]; rfl
    unfold rpl
    rw [ok, decide_eq_true hl, cond_true]
    cases p with
    | nil =>
      have h : EXR (.tuple [.sl 44 .ex [], .b true], []) fun q => evF Γ (runS []) (L Γ (runS []) 21 q) 21 [.s []] [] :=
        er_of (fun q => w21 _ _) (er_f rfl (er_lab (Goes.er (er_of (fun q => w21_5a _ _ _ _) (er_f rfl (er_is rfl))))))
      obtain ⟨k, hk⟩ := h
      exact (ret_goes (Γ := Γ) hP hZ none_ok (by kernel_rfl) ⟨k, hk⟩).wk wk_ex
    | cons c r =>
      by_cases hno : c = 92 ∧ r = []
      · obtain ⟨rfl, rfl⟩ := hno
        have h : EXR (.tuple [.sl 44 .ex [], .b false], []) fun q => evF Γ (runS []) (L Γ (runS []) 21 q) 21 [.s [92]] [] :=
          er_of (fun q => w21 _ _) (er_f rfl (er_lab (Goes.er (er_of (fun q => w21_5a _ _ _ _) (er_t rfl (er_idx (by omega) (mid_get [] 92 []) (er_f rfl (er_f rfl (er_t rfl (er_t rfl (er_is rfl)))))))))))
        obtain ⟨k, hk⟩ := h
        exact (ret_goes (Γ := Γ) hP hZ none_ok (by kernel_rfl) ⟨k, hk⟩).wk wk_ex
      · have h : EXR (res21 [] (c :: r)) fun q => evF Γ (runS []) (L Γ (runS []) 21 q) 21 [.s (c :: r)] [] :=
          er_of (fun q => w21 _ _) (er_f (decide_eq_false (by omega)) (er_lab (g21a c r hl hno)))
        obtain ⟨k, hk⟩ := h
        exact ret_goes (Γ := Γ) hP hZ none_ok (by kernel_rfl) ⟨k, hk⟩
  · have h : EXR (.tuple [.sl 44 .ex [], .b false], []) fun q => evF Γ (runS []) (L Γ (runS []) 21 q) 21 [.s p] [] :=
      er_of (fun q => w21 _ _) (er_t (decide_eq_true (by omega)) (er_is rfl))
    have ok : okP p = false := by unfold okP; rw [decide_eq_false hl]; rfl
    obtain ⟨k, hk⟩ := h
    unfold rpl
    rw [ok, decide_eq_false hl]
    exact (ret_goes (Γ := Γ) hP hZ none_ok (by kernel_rfl) ⟨k, hk⟩).wk wk_ex
/-! ### a piece against a byte; counting -/
theorem isPc_ex {x : D} (h : isPc x = true) : ∃ k b, x = .agg [.int .i64 k, .int .u8 b] := by
  unfold isPc at h
  split at h
  · exact ⟨_, _, rfl⟩
  · exact absurd h (by simp)
theorem spFits_ok : SpecOK Γ ⟨20, dat spFits⟩ := dat_ok fun args r hr => by
  unfold spFits at hr
  split at hr
  · simp only [Option.some.injEq, Prod.mk.injEq] at hr
    obtain ⟨h1, rfl⟩ := hr
    obtain ⟨k, b, rfl⟩ := isPc_ex h1
    refine ret_goes (Γ := Γ) hP hZ none_ok (by kernel_rfl) ⟨0, ?_⟩
    rw [w20]
    show _ = some (AV.b (bif k == 1 then true else bif k == 0 then b == _ else false), ([] : Objs))
    cases k == 1 <;> cases k == 0 <;> rfl
  · exact absurd hr (by simp)
theorem xCount_ok : SpecOK Γ ⟨94, xCount⟩ := by
  intro args obs r obs' h
  change xCount args obs = some (true, r, obs') at h
  unfold xCount at h
  split at h
  · cases h
    intro w S σ X vals _ hM ha
    simp only [RepAs, RepA] at ha
    obtain ⟨v, _, rfl, ⟨s, rfl, rfl⟩, v', _, rfl, rfl, rfl⟩ := ha
    show UponOK Try.prog _ ((callFunc 94 _).run Try.prog w)
    rw [run_callFunc_extern Try.func94 (by kernel_rfl) (by kernel_rfl) (by kernel_rfl) (e := Extern.BytealgCount.count) (by kernel_rfl), Lib.run_countString]
    exact ⟨S, σ, hM, Keeps.refl w S, by simp only [RepA]; rfl⟩
  · exact absurd h (by simp)
theorem W92_ok : CallsOK Γ W92 := specs_ok (.cons xCount_ok .nil)
theorem spCnt_ok : SpecOK Γ ⟨92, dat spCnt⟩ := dat_ok fun args r hr => by
  unfold spCnt at hr
  split at hr
  · rename_i l x
    simp only [Option.some.injEq, Prod.mk.injEq] at hr
    obtain ⟨h1, rfl⟩ := hr
    have h1 : x.length = 1 := by simpa [one1] using h1
    obtain ⟨c, rfl⟩ := List.length_eq_one_iff.1 h1
    exact ret_goes (Γ := Γ) hP hZ W92_ok (by kernel_rfl) ⟨0, w92 _ l c⟩
  · exact absurd hr (by simp)
end Go.Proofs.Ytbdekjlnnbjicaa.V

/- strings.Replacer of three pairs: the text, each of three signs with one ahead. -/
namespace Go.Proofs.Ytbdekjlnnbjicaa.V
open Go
set_option maxRecDepth 100000
set_option linter.unusedVariables false
set_option linter.unusedSimpArgs false

theorem er_os {r : AV × Objs} {α : Type} {o : Option α} {x : α} {K : Nat → α → Option (AV × Objs)} (h : o = some x) (h' : EXR r fun n => K n x) : EXR r fun n => onSome o (K n) := by
  subst h; exact h'
theorem set_rep {α : Type} (A : List α) (m : Nat) (z v : α) : (A ++ List.replicate (m + 1) z).set A.length v = (A ++ [v]) ++ List.replicate m z := by
  simp [List.replicate_succ]
theorem get_rep {α : Type} (A : List α) (m : Nat) (z : α) : (A ++ List.replicate (m + 1) z)[A.length]? = some z := by
  simp [List.replicate_succ]
theorem put2 {α : Type} (A : List α) (m : Nat) (z x y : α) : putL (A ++ List.replicate (m + 2) z) A.length [x, y] = (A ++ [x, y]) ++ List.replicate m z := by
  unfold putL
  rw [List.take_left]
  have : (A ++ List.replicate (m + 2) z).drop (A.length + [x, y].length) = List.replicate m z := by
    rw [← List.drop_drop, List.drop_left]
    simp
  rw [this]
theorem spc_nat (c : UInt8) : (Nat.beq c.toNat 42 || Nat.beq c.toNat 63 || Nat.beq c.toNat 92) = spc c := by
  have h : ∀ k : UInt8, Nat.beq c.toNat k.toNat = (c == k) := fun k => by
    rw [Bool.eq_iff_iff, Nat.beq_eq, beq_iff_eq]
    exact UInt8.toNat_inj
  have h1 := h 42; have h2 := h 63; have h3 := h 92
  unfold spc
  rw [← h1, ← h2, ← h3]
  rfl
theorem tab_get (c : UInt8) : tabQ[(c.toNat : Int).toNat]? = some (bif spc c then D.slice .any [.int .u8 92, .int .u8 (c.toNat : Int)] else D.slice .nl []) := by
  rw [Int.toNat_natCast]
  unfold tabQ
  rw [List.getElem?_map, List.getElem?_range c.toNat_lt, Option.map_some, spc_nat]
theorem cnt3 : ∀ s : Tx, s.count 92 + s.count 63 + s.count 42 = numS s
  | [] => rfl
  | c :: r => by
    have ih := cnt3 r
    simp only [List.count_cons, numS]
    by_cases h1 : c = 42
    · subst h1; simp [spc]; omega
    · by_cases h2 : c = 63
      · subst h2; simp [spc]; omega
      · by_cases h3 : c = 92
        · subst h3; simp [spc]; omega
        · have e1 : (c == 42) = false := by simpa using h1
          have e2 : (c == 63) = false := by simpa using h2
          have e3 : (c == 92) = false := by simpa using h3
          simp [spc, e1, e2, e3]; omega
theorem cnt_eq (s : Tx) (c : UInt8) : cntQ s [c] = ((s.count c : Nat) : Int) := by
  unfold cntQ cntZ Lib.countByte
  rw [List.headD_cons, Int.toNat_natCast]
  congr 2
  exact UInt8.ofNat_toNat
theorem c256 (c : UInt8) : (decide ((0 : Int) ≤ (c.toNat : Int)) && decide ((c.toNat : Int) < 256)) = true := by
  have := c.toNat_lt
  rw [decide_eq_true (by omega), decide_eq_true (by omega)]; rfl
/-! ### the new text -/
def R90 (s : Tx) : AV × Objs := (.s (quoteL s), obS 1)
theorem g90_24 : ∀ (rest pre : Tx), (pre ++ rest).length ≤ 4194304 →
    Goes Γ W90 90 24 ⟨[(0, .ptr 0 [] 81), (1, .s (pre ++ rest)), (12, .ref 5 2), (13, .i .i64 ((quoteL pre).length : Int)), (14, .i .i64 (pre.length : Int))], [some (.box 81 (.agg 81 [.d 80 (D.agg tabQ), .ref 9 1])), some (.arr 9 rowQ false), some (.arr 5 (bytesD (quoteL pre) ++ List.replicate (quoteL rest).length (.int .u8 0)) false)]⟩ (R90 (pre ++ rest))
  | [], pre, h => by
    refine Goes.er (er_of (fun q => w90_24a _ _ _ _ _ _ _) (er_f (decide_eq_false (by rw [List.append_nil]; omega)) ?_))
    rw [show (quoteL []).length = 0 from rfl, List.replicate_zero, List.append_nil, List.append_nil]
    exact er_kb (er_is rfl)
  | c :: rest, pre, h => by
    have hlen : (pre ++ c :: rest).length = pre.length + rest.length + 1 := by simp; omega
    have hq := quote_len pre
    have hn := numS_le pre
    have w1 : IntKind.wrap .i64 ((pre.length : Int) + 1) = ((pre ++ [c]).length : Int) := w_next pre c (by omega)
    have ih := g90_24 rest (pre ++ [c]) (by rw [List.append_assoc]; exact h)
    rw [List.append_assoc, quote_app] at ih
    refine Goes.er (er_of (fun q => w90_24a _ _ _ _ _ _ _) (er_t (decide_eq_true (by omega)) (er_idx (by omega) (mid_get pre c rest) (er_t (c256 c) (er_get (tab_get c) ?_)))))
    cases hc : spc c with
    | true =>
      have hr : (quoteL (c :: rest)).length = (quoteL rest).length + 2 := by simp [quoteL, hc]
      have h1 : quoteL [c] = [92, c] := by simp [quoteL, hc]
      rw [h1] at ih
      refine er_sl (er_os (x := false) rfl (er_t rfl (er_t rfl (er_t (by rw [decide_eq_true (by omega), decide_eq_true (by rw [List.length_append, bytesD_len]; omega)]; rfl) (er_t (c256 c) (er_get (by rw [tab_get c, hc]; rfl) (er_sl (er_lab ?_))))))))
      have hl6 : (bytesD (quoteL pre) ++ List.replicate (quoteL (c :: rest)).length (D.int .u8 0)).length - (((quoteL pre).length : Nat) : Int).toNat = (quoteL rest).length + 2 := by
        rw [List.length_append, bytesD_len, List.length_replicate, hr, Int.toNat_natCast]; omega
      rw [hl6, Int.toNat_natCast, hr, w1]
      have ht : List.take ((quoteL rest).length + 2) [D.int .u8 92, D.int .u8 (c.toNat : Int)] = [D.int .u8 92, D.int .u8 (c.toNat : Int)] := List.take_of_length_le (by simp)
      have hm : (Nat.min [D.int .u8 92, D.int .u8 (c.toNat : Int)].length ((quoteL rest).length + 2) : Nat) = 2 := by
        show Nat.min 2 _ = 2
        exact Nat.min_eq_left (by omega)
      have hp := put2 (bytesD (quoteL pre)) (quoteL rest).length (D.int .u8 0) (.int .u8 92) (.int .u8 (c.toNat : Int))
      rw [bytesD_len] at hp
      rw [ht, hm, hp]
      have w2 : IntKind.wrap .i64 (((quoteL pre).length : Int) + ((2 : Nat) : Int)) = ((quoteL pre ++ [92, c]).length : Int) := by
        rw [wrapI (by omega) (by omega)]; simp
      rw [w2]
      rw [bytesD_app] at ih
      exact ih
    | false =>
      have hr : (quoteL (c :: rest)).length = (quoteL rest).length + 1 := by simp [quoteL, hc]
      have h1 : quoteL [c] = [c] := by simp [quoteL, hc]
      rw [h1] at ih
      have hp := set_rep (bytesD (quoteL pre)) (quoteL rest).length (D.int .u8 0) (.int .u8 (c.toNat : Int))
      have hg := get_rep (bytesD (quoteL pre)) (quoteL rest).length (D.int .u8 0)
      rw [bytesD_len] at hp hg
      refine er_sl (er_os (x := true) rfl (er_t rfl (er_f rfl (er_t (by rw [decide_eq_true (by omega), decide_eq_true (by rw [List.length_append, bytesD_len, List.length_replicate, hr]; omega)]; rfl) (er_get (by rw [Int.toNat_natCast, hr]; exact hg) (er_lab ?_))))))
      rw [Int.toNat_natCast, hr, hp, w1]
      have w2 : IntKind.wrap .i64 (((quoteL pre).length : Int) + 1) = ((quoteL pre ++ [c]).length : Int) := w_next (quoteL pre) c (by omega)
      rw [w2]
      rw [bytesD_app] at ih
      exact ih
/-- what follows the count -/
theorem er_made (s : Tx) (hs : s.length ≤ 4194304) (b : Bool) (hb : b = decide (0 < numS s)) : EXR (R90 s) fun q => bif !b then (some (.s s, [some (.box 81 (.agg 81 [.d 80 (D.agg tabQ), .ref 9 1])), some (.arr 9 rowQ false)])) else (bif decide ((0:Int) ≤ ((s.length + numS s : Nat) : Int)) && decide (((s.length + numS s : Nat) : Int) ≤ ((s.length + numS s : Nat) : Int)) && roomB (Int.toNat ((s.length + numS s : Nat) : Int)) 1 then (L Γ W90 90 q (todoAt Γ 90 24) ⟨[(0, .ptr 0 [] 81), (1, .s s), (12, .ref 5 2), (13, .i .i64 0), (14, .i .i64 0)], [some (.box 81 (.agg 81 [.d 80 (D.agg tabQ), .ref 9 1])), some (.arr 9 rowQ false), some (.arr 5 (List.replicate (Int.toNat ((s.length + numS s : Nat) : Int)) (D.int .u8 0)) false)]⟩) else none) := by
  have hn := numS_le s
  cases b with
  | false =>
    refine er_t rfl (er_is ?_)
    have : numS s = 0 := by
      have := of_decide_eq_false hb.symm
      omega
    unfold R90
    rw [quote_no s this]
    rfl
  | true =>
    refine er_f rfl (er_t (by rw [decide_eq_true (by omega), decide_eq_true (by omega), Int.toNat_natCast, room1 (by omega)]; rfl) (er_lab ?_))
    rw [Int.toNat_natCast, ← quote_len]
    exact g90_24 s [] hs
theorem g90_13 : ∀ (rest pre : Tx) (b : Bool), (pre ++ rest).length ≤ 4194304 → b = decide (0 < numS pre) →
    Goes Γ W90 90 13 ⟨[(0, .ptr 0 [] 81), (1, .s (pre ++ rest)), (5, .i .i64 (((pre ++ rest).length + numS pre : Nat) : Int)), (6, .b b), (10, .i .i64 (pre.length : Int))], [some (.box 81 (.agg 81 [.d 80 (D.agg tabQ), .ref 9 1])), some (.arr 9 rowQ false)]⟩ (R90 (pre ++ rest))
  | [], pre, b, h, hb => by
    refine Goes.er (er_of (fun q => w90_13a _ _ _ _ _ _ _) (er_f (decide_eq_false (by rw [List.append_nil]; omega)) ?_))
    rw [List.append_nil] at h ⊢
    exact er_made pre h b hb
  | c :: rest, pre, b, h, hb => by
    have hlen : (pre ++ c :: rest).length = pre.length + rest.length + 1 := by simp; omega
    have hn := numS_le pre
    have w1 : IntKind.wrap .i64 ((pre.length : Int) + 1) = ((pre ++ [c]).length : Int) := w_next pre c (by omega)
    refine Goes.er (er_of (fun q => w90_13a _ _ _ _ _ _ _) (er_t (decide_eq_true (by omega)) (er_idx (by omega) (mid_get pre c rest) (er_t (c256 c) (er_get (tab_get c) ?_)))))
    cases hc : spc c with
    | true =>
      have h1 : numS (pre ++ [c]) = numS pre + 1 := by rw [numS_app]; simp [numS, hc]
      have ih := g90_13 rest (pre ++ [c]) true (by rw [List.append_assoc]; exact h) (by rw [h1, decide_eq_true (by omega)])
      rw [List.append_assoc, h1] at ih
      refine er_sl (er_os (x := false) rfl (er_t rfl (er_t rfl (er_t (c256 c) (er_get (by rw [tab_get c, hc]; rfl) (er_sl (er_lab ?_)))))))
      rw [w1]
      have w2 : IntKind.wrap .i64 ((((pre ++ c :: rest).length + numS pre : Nat) : Int) + (IntKind.wrap .i64 ((([D.int .u8 92, D.int .u8 (c.toNat : Int)] : List D).length : Int) - 1))) = (((pre ++ c :: rest).length + (numS pre + 1) : Nat) : Int) := by
        rw [show IntKind.wrap .i64 ((([D.int .u8 92, D.int .u8 (c.toNat : Int)] : List D).length : Int) - 1) = 1 from rfl, wrapI (by omega) (by omega)]
        omega
      rw [w2]
      exact ih
    | false =>
      have h1 : numS (pre ++ [c]) = numS pre := by rw [numS_app]; simp [numS, hc]
      have ih := g90_13 rest (pre ++ [c]) b (by rw [List.append_assoc]; exact h) (by rw [h1]; exact hb)
      rw [List.append_assoc, h1] at ih
      refine er_sl (er_os (x := true) rfl (er_t rfl (er_f rfl (er_lab ?_))))
      rw [w1]
      exact ih
def sumC (s : Tx) : Tx → Nat
  | [] => 0
  | c :: r => sumC s r + s.count c
theorem sumC_snoc (s : Tx) (c : UInt8) : ∀ pre : Tx, sumC s (pre ++ [c]) = sumC s pre + s.count c
  | [] => rfl
  | d :: r => by
    have := sumC_snoc s c r
    simp only [List.cons_append, sumC]; omega
theorem sumC_all (s : Tx) : sumC s [92, 63, 42] = numS s := by
  rw [← cnt3]
  simp only [sumC]; omega
theorem rowQ_eq : rowQ = ([92, 63, 42] : Tx).map fun c => D.str [c] := rfl
theorem g90_5 (s : Tx) (hs : s.length ≤ 4194304) : ∀ (rest pre : Tx) (b : Bool), ([92, 63, 42] : Tx) = pre ++ rest → b = decide (0 < sumC s pre) → sumC s pre + sumC s rest ≤ 4194304 →
    Goes Γ W90 90 5 ⟨[(0, .ptr 0 [] 81), (1, .s s), (5, .i .i64 ((s.length + sumC s pre : Nat) : Int)), (6, .b b), (30, .ref 9 1), (31, .i .i64 3), (32, .i .i64 (pre.length : Int))], [some (.box 81 (.agg 81 [.d 80 (D.agg tabQ), .ref 9 1])), some (.arr 9 rowQ false)]⟩ (R90 s)
  | [], pre, b, he, hb, _ => by
    rw [List.append_nil] at he
    rw [← he]
    rw [← he, sumC_all] at hb
    refine Goes.er (er_of (fun q => w90_5a _ _ _ _ _ _ _ _) (er_f rfl ?_))
    rw [sumC_all]
    exact er_made s hs b hb
  | c :: rest, pre, b, he, hb, hsum => by
    have hp3 : pre.length < 3 := by
      have := congrArg List.length he
      simp at this; omega
    have hsp : spc c = true := by
      have hm : c ∈ ([92, 63, 42] : Tx) := by rw [he]; simp
      simp only [List.mem_cons, List.not_mem_nil, or_false] at hm
      rcases hm with rfl | rfl | rfl <;> rfl
    have hrow : rowQ[(pre.length : Int).toNat]? = some (D.str [c]) := by
      rw [Int.toNat_natCast, rowQ_eq, he]; simp
    have w1 : IntKind.wrap .i64 ((pre.length : Int) + 1) = ((pre ++ [c]).length : Int) := w_next pre c (by omega)
    have hsc : sumC s (c :: rest) = sumC s rest + s.count c := rfl
    refine Goes.er (er_of (fun q => w90_5a _ _ _ _ _ _ _ _) (er_t (decide_eq_true (by omega)) (er_t (by rw [decide_eq_true (by omega), decide_eq_true (show ((pre.length : Nat) : Int) < (rowQ.length : Int) from by rw [show rowQ.length = 3 from rfl]; omega)]; rfl) (er_get hrow (er_s (er_t rfl ?_))))))
    rw [cnt_eq]
    have hs2 := sumC_snoc s c pre
    by_cases h0 : s.count c = 0
    · have ih := g90_5 s hs rest (pre ++ [c]) b (by rw [List.append_assoc]; exact he) (by rw [hs2, h0]; exact hb) (by rw [hs2]; omega)
      rw [hs2, h0] at ih
      refine er_f (by rw [h0]; rfl) (er_lab ?_)
      rw [w1]
      exact ih
    · have ih := g90_5 s hs rest (pre ++ [c]) true (by rw [List.append_assoc]; exact he) (by rw [hs2, decide_eq_true (by omega)]) (by rw [hs2]; omega)
      rw [hs2] at ih
      refine er_t (by rw [bne_iff_ne]; omega) (er_idx (y := c) (by omega) rfl (er_t (c256 c) (er_get (by rw [tab_get c, hsp]; rfl) (er_sl (er_lab ?_)))))
      rw [w1]
      have w2 : IntKind.wrap .i64 (((s.length + sumC s pre : Nat) : Int) + (IntKind.wrap .i64 (((s.count c : Nat) : Int) * (IntKind.wrap .i64 ((([D.int .u8 92, D.int .u8 (c.toNat : Int)] : List D).length : Int) - 1))))) = ((s.length + (sumC s pre + s.count c) : Nat) : Int) := by
        rw [show IntKind.wrap .i64 ((([D.int .u8 92, D.int .u8 (c.toNat : Int)] : List D).length : Int) - 1) = 1 from rfl, Int.mul_one, wrapI (n := ((s.count c : Nat) : Int)) (by omega) (by omega), wrapI (by omega) (by omega)]
        omega
      rw [w2]
      exact ih
theorem W90_ok : CallsOK Γ W90 := specs_ok (.cons spCnt_ok .nil)
theorem k90 (s : Tx) (hs : s.length ≤ 4194304) : RetX Γ 90 [.ptr 0 [] 81, .s s] (obS 1) (.s (quoteL s)) (obS 1) := by
  have h : EXR (R90 s) fun q => evF Γ W90 (L Γ W90 90 q) 90 [.ptr 0 [] 81, .s s] (obS 1) := by
    refine er_of (fun q => w90 _ _ _ _) (er_if (fun _ => er_lab ?_) (fun _ => er_lab ?_))
    · have := g90_5 s hs [92, 63, 42] [] false rfl rfl (by rw [sumC_all]; have := numS_le s; simp [sumC]; omega)
      exact this
    · have := g90_13 s [] false hs rfl
      exact this
  obtain ⟨k, hk⟩ := h
  exact ret_goes (Γ := Γ) hP hZ W90_ok (by kernel_rfl) ⟨k, hk⟩
end Go.Proofs.Ytbdekjlnnbjicaa.V

/- glob.Quote: through strings.NewReplacer, sync.Once, the replacer. -/
namespace Go.Proofs.Ytbdekjlnnbjicaa.V
open Go
set_option maxRecDepth 100000
set_option linter.unusedVariables false
set_option linter.unusedSimpArgs false

mutual
def likeD : D → D → Bool
  | .int k n, .int k' m => kEq k k' && n == m
  | .bool a, .bool b => a == b
  | .str a, .str b => a == b
  | .slice c xs, .slice c' ys => decide (c = c') && likeDs xs ys
  | .agg xs, .agg ys => likeDs xs ys
  | _, _ => false
def likeDs : List D → List D → Bool
  | [], [] => true
  | a :: r, b :: s => likeD a b && likeDs r s
  | _, _ => false
end
mutual
theorem likeD_eq : ∀ (a b : D), likeD a b = true → a = b
  | .int k n, b, h => by
    cases b <;> simp only [likeD] at h <;> try (exact Bool.noConfusion h)
    simp only [Bool.and_eq_true, beq_iff_eq] at h
    rw [kEq_iff.1 h.1, h.2]
  | .bool x, b, h => by
    cases b <;> simp only [likeD] at h <;> try (exact Bool.noConfusion h)
    rw [beq_iff_eq.1 h]
  | .str x, b, h => by
    cases b <;> simp only [likeD] at h <;> try (exact Bool.noConfusion h)
    rw [beq_iff_eq.1 h]
  | .slice c xs, b, h => by
    cases b <;> simp only [likeD] at h <;> try (exact Bool.noConfusion h)
    simp only [Bool.and_eq_true, decide_eq_true_eq] at h
    rw [h.1, likeDs_eq xs _ h.2]
  | .agg xs, b, h => by
    cases b <;> simp only [likeD] at h <;> try (exact Bool.noConfusion h)
    rw [likeDs_eq xs _ h]
theorem likeDs_eq : ∀ (a b : List D), likeDs a b = true → a = b
  | [], b, h => by
    cases b with
    | nil => rfl
    | cons _ _ => simp only [likeDs] at h; exact Bool.noConfusion h
  | x :: r, b, h => by
    cases b with
    | nil => simp only [likeDs] at h; exact Bool.noConfusion h
    | cons y s =>
      simp only [likeDs, Bool.and_eq_true] at h
      rw [likeD_eq x y h.1, likeDs_eq r s h.2]
end
def onceZ : D := .agg [.agg [], .agg [.agg [], .int .u32 0], .agg [.agg [], .agg [.int .i32 0, .int .u32 0]]]
def xNew : List AV → Objs → Option (Bool × AV × Objs)
  | [.sl 9 .ex xs], [] => some (likeDs xs argQ, .ptr 0 [] 64, ob1)
  | _, _ => none
def xDo : List AV → Objs → Option (Bool × AV × Objs)
  | [.ptr 0 [0] 60, .hp false 25 0 [] 64], [some (.box 64 (.agg 64 [.d 60 o, .err false, .ref 9 1])), some (.arr 9 xs false)] => some (likeD o onceZ && likeDs xs argQ, .tuple [], ob2)
  | _, _ => none
def x90 : List AV → Objs → Option (Bool × AV × Objs)
  | [.ptr 0 [] 81, .s s], [some (.box 81 (.agg 81 [.d 80 (.agg tb), .ref 9 1])), some (.arr 9 xs false)] => some (likeDs tb tabQ && (likeDs xs rowQ && short s), .s (quoteL s), obS 1)
  | _, _ => none
def x23 : List AV → Objs → Option (Bool × AV × Objs)
  | [.ptr 0 [] 64, .s s], [some (.box 64 (.agg 64 [.d 60 o, .err false, .ref 9 1])), some (.arr 9 xs false)] => some (likeD o onceZ && (likeDs xs argQ && short s), .s (quoteL s), ob2)
  | _, _ => none
theorem xNew_ok : SpecOK Γ ⟨22, xNew⟩ := by
  intro args obs r obs' h
  change xNew args obs = some (true, r, obs') at h
  unfold xNew at h
  split at h
  · rename_i xs
    simp only [Option.some.injEq, Prod.mk.injEq] at h
    obtain ⟨h1, rfl, rfl⟩ := h
    rw [likeDs_eq _ _ h1]
    exact k22
  · exact absurd h (by simp)
theorem xSlow_ok : SpecOK Γ ⟨27, xDo⟩ := by
  intro args obs r obs' h
  change xDo args obs = some (true, r, obs') at h
  unfold xDo at h
  split at h
  · simp only [Option.some.injEq, Prod.mk.injEq, Bool.and_eq_true] at h
    obtain ⟨⟨h1, h2⟩, rfl, rfl⟩ := h
    rw [likeDs_eq _ _ h2, likeD_eq _ _ h1]
    exact k27
  · exact absurd h (by simp)
noncomputable def H3 : Handle := callN Γ (runS (⟨27, xDo⟩ :: atomS)) 40
theorem H3_ok : CallsOK Γ H3 := (runN_ok hP hZ hN (specs_ok (.cons xSlow_ok (.cons xLoad_ok (.cons xStore_ok (.cons xCas_ok (.cons xAddI_ok (.cons xMark0_41 (.cons xMark0_43 (.cons xMark_44 (.cons xMark_46 .nil)))))))))) 40).2
theorem do_run : H3 24 [.ptr 0 [0] 60, .hp false 25 0 [] 64] ob1 = some (true, .tuple [], ob2) := by kernel_rfl
theorem xDo_ok : SpecOK Γ ⟨24, xDo⟩ := by
  intro args obs r obs' h
  change xDo args obs = some (true, r, obs') at h
  unfold xDo at h
  split at h
  · simp only [Option.some.injEq, Prod.mk.injEq, Bool.and_eq_true] at h
    obtain ⟨⟨h1, h2⟩, rfl, rfl⟩ := h
    rw [likeDs_eq _ _ h2, likeD_eq _ _ h1]
    exact H3_ok _ _ _ _ _ do_run
  · exact absurd h (by simp)
theorem x90_ok : SpecOK Γ ⟨90, x90⟩ := by
  intro args obs r obs' h
  change x90 args obs = some (true, r, obs') at h
  unfold x90 at h
  split at h
  · simp only [Option.some.injEq, Prod.mk.injEq, Bool.and_eq_true] at h
    obtain ⟨⟨h1, h2, h3⟩, rfl, rfl⟩ := h
    rw [likeDs_eq _ _ h2, likeDs_eq _ _ h1]
    exact k90 _ (by simpa [short] using h3)
  · exact absurd h (by simp)
def W23 : Handle := runS [⟨24, xDo⟩, ⟨90, x90⟩]
theorem W23_ok : CallsOK Γ W23 := specs_ok (.cons xDo_ok (.cons x90_ok .nil))
theorem w23 (lab : Lab) (s : Tx) : evF Γ W23 lab 23 [.ptr 0 [] 64, .s s] ob1 = bif short s then some (.s (quoteL s), ob2) else none := by kernel_rfl
theorem x23_ok : SpecOK Γ ⟨23, x23⟩ := by
  intro args obs r obs' h
  change x23 args obs = some (true, r, obs') at h
  unfold x23 at h
  split at h
  · simp only [Option.some.injEq, Prod.mk.injEq, Bool.and_eq_true] at h
    obtain ⟨⟨h1, h2, h3⟩, rfl, rfl⟩ := h
    rw [likeDs_eq _ _ h2, likeD_eq _ _ h1]
    exact ret_goes (Γ := Γ) hP hZ W23_ok (by kernel_rfl) ⟨0, by
      show evF Γ W23 _ 23 _ ob1 = _
      rw [w23, h3]; rfl⟩
  · exact absurd h (by simp)
def W13 : Handle := runS [⟨22, xNew⟩, ⟨23, x23⟩]
theorem W13_ok : CallsOK Γ W13 := specs_ok (.cons xNew_ok (.cons x23_ok .nil))
theorem w13 (lab : Lab) (s : Tx) : evF Γ W13 lab 13 [.s s] [] = bif short s then some (.s (quoteL s), []) else none := by kernel_rfl
theorem sp13_ok : SpecOK Γ ⟨13, dat (sp1 short fun p => .s (quoteL p))⟩ := sp1_ok fun p hp =>
  ret_goes (Γ := Γ) hP hZ W13_ok (by kernel_rfl) ⟨0, by rw [w13, hp]; rfl⟩
end Go.Proofs.Ytbdekjlnnbjicaa.V

/- glob.Match: the greedy way comes to what the pieces say. -/
namespace Go.Proofs.Ytbdekjlnnbjicaa.V
open Go
set_option maxRecDepth 100000
set_option linter.unusedVariables false
set_option linter.unusedSimpArgs false

theorem dget (X : List Pc) (p : Pc) (R : List Pc) : ((X ++ p :: R).map dpc)[((X.length : Nat) : Int).toNat]? = some (dpc p) := by simp
theorem dlen (X R : List Pc) : ((X ++ R).map dpc).length = X.length + R.length := by simp
theorem fit_eq {q : Pc} (c : UInt8) (h : q ≠ .many) : fitD (dpc q) (c.toNat : Int) = fit q c := by
  cases q with
  | many => exact absurd rfl h
  | one => rfl
  | ex b =>
    show (((b.toNat : Int)) == ((c.toNat : Int))) = (b == c)
    rw [Bool.eq_iff_iff, beq_iff_eq, beq_iff_eq, ← UInt8.toNat_inj]
    omega
def M9 (b : Bool) : AV × Objs := (.tuple [.b b, .i .i64 0], [])
theorem g16 : ∀ (R X : List Pc), (X ++ R).length ≤ 1000 →
    Goes Γ W9 9 16 ⟨[(6, .sl 37 .any ((X ++ R).map dpc)), (8, .i .i64 (X.length : Int))], []⟩ (M9 (mt R []))
  | [], X, h => by
    refine Goes.er (er_of (fun q => w9_16a _ _ _) (er_f (decide_eq_false (by rw [dlen]; simp)) (er_is ?_)))
    rw [dlen]
    simp [M9, mt]
  | p :: R, X, h => by
    have hl : (X ++ p :: R).length = X.length + R.length + 1 := by simp; omega
    refine Goes.er (er_of (fun q => w9_16a _ _ _) (er_t (decide_eq_true (by rw [dlen]; simp; omega)) (er_idx (by omega) (dget X p R) ?_)))
    have no : p ≠ .many → M9 (mt (p :: R) []) = (.tuple [.b ((X.length : Int) == (((X ++ p :: R).map dpc).length : Int)), .i .i64 0], []) := fun hp => by
      rw [mt_nil_no hp, dlen]
      have : ((X.length : Int) == ((X.length + (p :: R).length : Nat) : Int)) = false := by
        rw [beq_eq_false_iff_ne]; simp; omega
      rw [this]; rfl
    cases p with
    | many =>
      refine er_agg (er_get rfl (er_i (er_t rfl (er_lab ?_))))
      have ih := g16 R (X ++ [.many]) (by simp at h ⊢; omega)
      rw [List.append_assoc] at ih
      have w1 : IntKind.wrap .i64 ((X.length : Int) + 1) = ((X ++ [Pc.many]).length : Int) := by rw [wrapI (by omega) (by omega)]; simp
      rw [w1]
      exact ih
    | one => exact er_agg (er_get rfl (er_i (er_f rfl (er_is (no (by simp)).symm))))
    | ex b => exact er_agg (er_get rfl (er_i (er_f rfl (er_is (no (by simp)).symm))))
/-- behind a star -/
theorem gS : ∀ (a b c : Nat) (P A R : List Pc) (x u v : Tx), A.length + R.length = a → u.length + v.length = b → v.length = c → fits1 A u = true → (P ++ .many :: (A ++ R)).length ≤ 1000 → (x ++ (u ++ v)).length ≤ 4194304 →
    Goes Γ W9 9 6 ⟨[(1, .s (x ++ (u ++ v))), (6, .sl 37 .any ((P ++ .many :: (A ++ R)).map dpc)), (8, .i .i64 ((P.length + 1 + A.length : Nat) : Int)), (9, .i .i64 ((x.length + u.length : Nat) : Int)), (10, .i .i64 (P.length : Int)), (11, .i .i64 (x.length : Int))], []⟩ (M9 (mt (.many :: (A ++ R)) (u ++ v))) := by
  intro a
  induction a using Nat.strongRecOn with
  | _ a iha =>
  intro b
  induction b using Nat.strongRecOn with
  | _ b ihb =>
  intro c
  induction c using Nat.strongRecOn with
  | _ c ihc =>
  intro P A R x u v ha hb hc hfit hL hS
  have lL : (P ++ .many :: (A ++ R)).length = P.length + 1 + A.length + R.length := by simp; omega
  have lS : (x ++ (u ++ v)).length = x.length + u.length + v.length := by simp; omega
  have hB : x.length + u.length + v.length ≤ 4194304 := by rw [← lS]; exact hS
  have hP1 : P.length ≤ 1000 := by omega
  have hX : (P ++ Pc.many :: A).length = P.length + 1 + A.length := by simp; omega
  have eL : P ++ Pc.many :: (A ++ R) = (P ++ .many :: A) ++ R := by simp
  cases v with
  | nil =>
    refine Goes.er (er_of (fun q => w9_6a _ _ _ _ _ _ _) (er_f (decide_eq_false (by simp at lS ⊢)) (er_lab ?_)))
    have := g16 R (P ++ .many :: A) (by rw [← eL]; exact hL)
    rw [hX, ← eL] at this
    rw [List.append_nil, many_end hfit]
    exact this
  | cons d v =>
    -- a try more
    have more : mt (A ++ R) (u ++ d :: v) = false → Goes Γ W9 9 6 ⟨[(1, .s (x ++ (u ++ d :: v))), (6, .sl 37 .any ((P ++ .many :: (A ++ R)).map dpc)), (8, .i .i64 (IntKind.wrap .i64 ((P.length : Int) + 1))), (9, .i .i64 (IntKind.wrap .i64 ((x.length : Int) + 1))), (10, .i .i64 (P.length : Int)), (11, .i .i64 (IntKind.wrap .i64 ((x.length : Int) + 1)))], []⟩ (M9 (mt (.many :: (A ++ R)) (u ++ d :: v))) := fun hno => by
      obtain ⟨e, t, he⟩ : ∃ e t, u ++ d :: v = e :: t := by
        cases u with
        | nil => exact ⟨d, v, rfl⟩
        | cons e t => exact ⟨e, t ++ d :: v, rfl⟩
      have hlen := congrArg List.length he
      simp only [List.length_append, List.length_cons] at hlen hb hB
      rw [he] at hno hS ⊢
      rw [many_skip hno, wrapI (by omega) (by omega), wrapI (by omega) (by omega)]
      have ih := ihb (t.length) (by omega) t.length P [] (A ++ R) (x ++ [e]) [] t (by simpa using ha) (by simp) rfl rfl hL (by simp at hS ⊢; omega)
      have e1 : (x ++ [e]) ++ ([] ++ t) = x ++ e :: t := by simp
      rw [e1] at ih
      have e2 : ((P.length + 1 + ([] : List Pc).length : Nat) : Int) = (P.length : Int) + 1 := by simp
      have e3 : (((x ++ [e]).length + ([] : Tx).length : Nat) : Int) = (x.length : Int) + 1 := by simp
      have e4 : ((x ++ [e]).length : Int) = (x.length : Int) + 1 := by simp
      rw [e2, e3, e4] at ih
      exact ih
    have hat : decide (((x.length + u.length : Nat) : Int) < ((x ++ (u ++ d :: v)).length : Int)) = true := decide_eq_true (by simp only [List.length_cons] at lS; omega)
    have hsg : (x ++ (u ++ d :: v))[((x.length + u.length : Nat) : Int).toNat]? = some d := by
      rw [← List.append_assoc, show ((x.length + u.length : Nat) : Int) = (((x ++ u).length : Nat) : Int) by simp]
      exact mid_get (x ++ u) d v
    refine Goes.er (er_of (fun q => w9_6a _ _ _ _ _ _ _) (er_t hat ?_))
    cases R with
    | nil =>
      refine er_f (decide_eq_false (by rw [List.length_map, lL]; simp)) (er_f (decide_eq_false (by rw [List.length_map, lL]; simp)) (er_t (decide_eq_true (by omega)) (er_lab (more ?_))))
      rw [mt_fits hfit]; rfl
    | cons q R =>
      have hlt : decide (((P.length + 1 + A.length : Nat) : Int) < ((List.map dpc (P ++ .many :: (A ++ q :: R))).length : Int)) = true := decide_eq_true (by rw [List.length_map, lL]; simp; omega)
      have hg : ((P ++ Pc.many :: (A ++ q :: R)).map dpc)[((P.length + 1 + A.length : Nat) : Int).toNat]? = some (dpc q) := by
        rw [eL, ← hX]; exact dget _ q R
      refine er_t hlt (er_idx (by omega) hg ?_)
      have rest : q ≠ .many → EXR (M9 (mt (.many :: (A ++ q :: R)) (u ++ d :: v))) fun n => bif fitD (dpc q) ((d.toNat : Int)) then (L Γ W9 9 n (todoAt Γ 9 6) ⟨[(1, .s (x ++ (u ++ d :: v))), (6, .sl 37 .any ((P ++ .many :: (A ++ q :: R)).map dpc)), (8, .i .i64 (IntKind.wrap .i64 (((P.length + 1 + A.length : Nat) : Int) + 1))), (9, .i .i64 (IntKind.wrap .i64 (((x.length + u.length : Nat) : Int) + 1))), (10, .i .i64 (P.length : Int)), (11, .i .i64 (x.length : Int))], []⟩) else (bif decide ((P.length : Int) ≥ 0) then (L Γ W9 9 n (todoAt Γ 9 6) ⟨[(1, .s (x ++ (u ++ d :: v))), (6, .sl 37 .any ((P ++ .many :: (A ++ q :: R)).map dpc)), (8, .i .i64 (IntKind.wrap .i64 ((P.length : Int) + 1))), (9, .i .i64 (IntKind.wrap .i64 ((x.length : Int) + 1))), (10, .i .i64 (P.length : Int)), (11, .i .i64 (IntKind.wrap .i64 ((x.length : Int) + 1)))], []⟩) else (some (.tuple [.b false, .i .i64 0], []))) := fun hq => by
        rw [fit_eq d hq]
        cases hf : fit q d with
        | true =>
          refine er_t rfl (er_lab ?_)
          simp only [List.length_cons] at lS lL hc hb ha hB
          have ih := ihc v.length (by omega) P (A ++ [q]) R x (u ++ [d]) v (by simp; omega) (by simp; omega) rfl (fits1_snoc hfit hf) (by simpa using hL) (by simpa using hS)
          have e1 : A ++ [q] ++ R = A ++ q :: R := by simp
          have e2 : (u ++ [d]) ++ v = u ++ d :: v := by simp
          rw [e1, e2] at ih
          rw [wrapI (by omega) (by omega), wrapI (by omega) (by omega)]
          have e3 : ((P.length + 1 + (A ++ [q]).length : Nat) : Int) = ((P.length + 1 + A.length : Nat) : Int) + 1 := by simp; omega
          have e4 : ((x.length + (u ++ [d]).length : Nat) : Int) = ((x.length + u.length : Nat) : Int) + 1 := by simp; omega
          rw [e3, e4] at ih
          exact ih
        | false =>
          refine er_f rfl (er_t (decide_eq_true (by omega)) (er_lab (more ?_)))
          rw [mt_fits hfit]
          exact mt_nofit hq hf
      cases q with
      | many =>
        refine er_agg (er_get rfl (er_i (er_t rfl (er_lab ?_))))
        simp only [List.length_cons] at lS lL hc hb ha hB
        have ih := iha R.length (by omega) (d :: v).length (d :: v).length (P ++ .many :: A) [] R (x ++ u) [] (d :: v) (by simp) (by simp) rfl rfl (by simpa using hL) (by simpa using hS)
        rw [many_last hfit]
        have e1 : (P ++ Pc.many :: A) ++ Pc.many :: ([] ++ R) = P ++ .many :: (A ++ .many :: R) := by simp
        have e2 : (x ++ u) ++ ([] ++ d :: v) = x ++ (u ++ d :: v) := by simp
        rw [e1, e2] at ih
        rw [wrapI (by omega) (by omega)]
        have e3 : (((P ++ Pc.many :: A).length + 1 + ([] : List Pc).length : Nat) : Int) = ((P.length + 1 + A.length : Nat) : Int) + 1 := by simp; omega
        have e4 : (((x ++ u).length + ([] : Tx).length : Nat) : Int) = ((x.length + u.length : Nat) : Int) := by simp
        have e5 : (((P ++ Pc.many :: A).length : Nat) : Int) = ((P.length + 1 + A.length : Nat) : Int) := by rw [hX]
        have e6 : (((x ++ u).length : Nat) : Int) = ((x.length + u.length : Nat) : Int) := by simp
        rw [e3, e4, e5, e6] at ih
        exact ih
      | one => exact er_agg (er_get rfl (er_i (er_f rfl (er_t hlt (er_idx (by omega) hg (er_agg (er_lc (er_i (er_lc (er_c (er_ln (er_idx (by omega) hsg (er_t rfl (rest (by simp)))))))))))))))
      | ex b => exact er_agg (er_get rfl (er_i (er_f rfl (er_t hlt (er_idx (by omega) hg (er_agg (er_lc (er_i (er_lc (er_c (er_ln (er_idx (by omega) hsg (er_t rfl (rest (by simp)))))))))))))))
/-- no star yet -/
theorem gN : ∀ (v u : Tx) (A R : List Pc), fits1 A u = true → (A ++ R).length ≤ 1000 → (u ++ v).length ≤ 4194304 →
    Goes Γ W9 9 6 ⟨[(1, .s (u ++ v)), (6, .sl 37 .any ((A ++ R).map dpc)), (8, .i .i64 (A.length : Int)), (9, .i .i64 (u.length : Int)), (10, .i .i64 (-1)), (11, .i .i64 0)], []⟩ (M9 (mt R v))
  | [], u, A, R, hfit, hL, hS => by
    refine Goes.er (er_of (fun q => w9_6a _ _ _ _ _ _ _) (er_f (decide_eq_false (by simp)) (er_lab ?_)))
    exact g16 R A hL
  | d :: v, u, A, R, hfit, hL, hS => by
    have lS : (u ++ d :: v).length = u.length + v.length + 1 := by simp; omega
    refine Goes.er (er_of (fun q => w9_6a _ _ _ _ _ _ _) (er_t (decide_eq_true (by omega)) ?_))
    cases R with
    | nil => exact er_f (decide_eq_false (by simp)) (er_f (decide_eq_false (by simp)) (er_f rfl (er_is rfl)))
    | cons q R =>
      have lL : (A ++ q :: R).length = A.length + R.length + 1 := by simp; omega
      have hlt : decide ((A.length : Int) < ((List.map dpc (A ++ q :: R)).length : Int)) = true := decide_eq_true (by rw [List.length_map]; omega)
      have hg := dget A q R
      refine er_t hlt (er_idx (by omega) hg ?_)
      have rest : q ≠ .many → EXR (M9 (mt (q :: R) (d :: v))) fun n => bif fitD (dpc q) ((d.toNat : Int)) then (L Γ W9 9 n (todoAt Γ 9 6) ⟨[(1, .s (u ++ d :: v)), (6, .sl 37 .any ((A ++ q :: R).map dpc)), (8, .i .i64 (IntKind.wrap .i64 ((A.length : Int) + 1))), (9, .i .i64 (IntKind.wrap .i64 ((u.length : Int) + 1))), (10, .i .i64 (-1)), (11, .i .i64 0)], []⟩) else (bif decide ((-1 : Int) ≥ 0) then (L Γ W9 9 n (todoAt Γ 9 6) ⟨[(1, .s (u ++ d :: v)), (6, .sl 37 .any ((A ++ q :: R).map dpc)), (8, .i .i64 (IntKind.wrap .i64 (-1 + 1))), (9, .i .i64 (IntKind.wrap .i64 (0 + 1))), (10, .i .i64 (-1)), (11, .i .i64 (IntKind.wrap .i64 (0 + 1)))], []⟩) else (some (.tuple [.b false, .i .i64 0], []))) := fun hq => by
        rw [fit_eq d hq]
        cases hf : fit q d with
        | true =>
          refine er_t rfl (er_lab ?_)
          have ih := gN v (u ++ [d]) (A ++ [q]) R (fits1_snoc hfit hf) (by simpa using hL) (by simpa using hS)
          have e1 : A ++ [q] ++ R = A ++ q :: R := by simp
          have e2 : (u ++ [d]) ++ v = u ++ d :: v := by simp
          rw [e1, e2] at ih
          rw [wrapI (by omega) (by omega), wrapI (by omega) (by omega)]
          have e3 : ((A ++ [q]).length : Int) = (A.length : Int) + 1 := by simp
          have e4 : ((u ++ [d]).length : Int) = (u.length : Int) + 1 := by simp
          rw [e3, e4] at ih
          have hm : mt (q :: R) (d :: v) = mt R v := mt_fits (A := [q]) (u := [d]) (by simp [fits1, hf])
          rw [hm]
          exact ih
        | false =>
          refine er_f rfl (er_f rfl (er_is ?_))
          rw [mt_nofit hq hf]; rfl
      cases q with
      | many =>
        refine er_agg (er_get rfl (er_i (er_t rfl (er_lab ?_))))
        have ih := gS _ _ _ A [] R u [] (d :: v) rfl rfl rfl rfl hL hS
        rw [wrapI (by omega) (by omega)]
        have e3 : ((A.length + 1 + ([] : List Pc).length : Nat) : Int) = (A.length : Int) + 1 := by simp
        have e4 : ((u.length + ([] : Tx).length : Nat) : Int) = (u.length : Int) := by simp
        rw [e3, e4] at ih
        exact ih
      | one => exact er_agg (er_get rfl (er_i (er_f rfl (er_t hlt (er_idx (by omega) hg (er_agg (er_lc (er_i (er_lc (er_c (er_ln (er_idx (by omega) (mid_get u d v) (er_t rfl (rest (by simp)))))))))))))))
      | ex b => exact er_agg (er_get rfl (er_i (er_f rfl (er_t hlt (er_idx (by omega) hg (er_agg (er_lc (er_i (er_lc (er_c (er_ln (er_idx (by omega) (mid_get u d v) (er_t rfl (rest (by simp)))))))))))))))
theorem W9_ok : CallsOK Γ W9 := specs_ok (.cons sp19_ok (.cons spFits_ok .nil))
theorem short_le {s : Tx} (h : short s = true) : s.length ≤ 4194304 := by simpa [short] using h
theorem okP_len {p : Tx} (h : okP p = true) : p.length ≤ 200 ∧ (pcs p).2 = true := by
  unfold okP at h
  simp only [Bool.and_eq_true, decide_eq_true_eq] at h
  exact h
theorem okP_pcs {p : Tx} (h : okP p = true) : (pcs p).1.length ≤ 200 := Nat.le_trans (pcs_len _ p (Nat.le_refl _)) (okP_len h).1
theorem sp9_ok : SpecOK Γ ⟨9, dat (sp2 (fun p s => short p && short s) fun p s => .tuple [.b (okP p && mt (pcs p).1 s), .i .i64 (erP p)])⟩ := sp2_ok fun p s h => by
  simp only [Bool.and_eq_true] at h
  have : EXR (.tuple [.b (okP p && mt (pcs p).1 s), .i .i64 (erP p)], []) fun q => evF Γ W9 (L Γ W9 9 q) 9 [.s p, .s s] [] := by
    refine er_of (fun q => w9 _ _ _) (er_t h.1 ?_)
    unfold erP
    cases ho : okP p with
    | false => exact er_t rfl (er_is rfl)
    | true =>
      refine er_f rfl (er_lab ?_)
      unfold gpl
      rw [ho]
      exact gN s [] [] (pcs p).1 rfl (by have := okP_pcs ho; simp; omega) (short_le h.2)
  obtain ⟨k, hk⟩ := this
  exact ret_goes (Γ := Γ) hP hZ W9_ok (by kernel_rfl) ⟨k, hk⟩
end Go.Proofs.Ytbdekjlnnbjicaa.V

/- The document's Match: by a table of what matches from where on. -/
namespace Go.Proofs.Ytbdekjlnnbjicaa.V
open Go
set_option maxRecDepth 100000
set_option linter.unusedVariables false
set_option linter.unusedSimpArgs false

def rowB (s : Tx) (l : List Pc) : List D := (List.range (s.length + 1)).map fun i => D.bool (mt l (s.drop i))
theorem rowB_get {s : Tx} {l : List Pc} {i : Nat} (h : i ≤ s.length) : (rowB s l)[i]? = some (D.bool (mt l (s.drop i))) := by
  unfold rowB
  rw [List.getElem?_map, List.getElem?_range (by omega)]
  rfl
theorem rowB_len (s : Tx) (l : List Pc) : (rowB s l).length = s.length + 1 := by simp [rowB]
def rowP (s : Tx) (l : List Pc) (m : Nat) : List D := List.replicate m (D.bool false) ++ (List.range' m (s.length + 1 - m)).map fun i => D.bool (mt l (s.drop i))
theorem rowP_len {s : Tx} {l : List Pc} {m : Nat} (h : m ≤ s.length + 1) : (rowP s l m).length = s.length + 1 := by simp [rowP]; omega
theorem rowP_split {s : Tx} {l : List Pc} {m : Nat} (h : m ≤ s.length) : rowP s l m = List.replicate m (D.bool false) ++ D.bool (mt l (s.drop m)) :: (List.range' (m + 1) (s.length + 1 - (m + 1))).map fun i => D.bool (mt l (s.drop i)) := by
  unfold rowP
  rw [show s.length + 1 - m = (s.length + 1 - (m + 1)) + 1 by omega, List.range'_succ, List.map_cons]
theorem rowP_succ (s : Tx) (l : List Pc) (m : Nat) : rowP s l (m + 1) = List.replicate m (D.bool false) ++ D.bool false :: (List.range' (m + 1) (s.length + 1 - (m + 1))).map fun i => D.bool (mt l (s.drop i)) := by
  unfold rowP
  rw [List.replicate_succ']
  simp
theorem rowP_set {s : Tx} {l : List Pc} {m : Nat} {b : Bool} (h : m ≤ s.length) (hb : b = mt l (s.drop m)) : (rowP s l (m + 1)).set m (D.bool b) = rowP s l m := by
  rw [rowP_split h, rowP_succ, hb]
  have : ∀ (A : List D) (z v : D) (T : List D), (A ++ z :: T).set A.length v = A ++ v :: T := fun A z v T => by simp
  have := this (List.replicate m (D.bool false)) (D.bool false) (D.bool (mt l (s.drop m))) ((List.range' (m + 1) (s.length + 1 - (m + 1))).map fun i => D.bool (mt l (s.drop i)))
  rw [List.length_replicate] at this
  exact this
theorem rowP_keep {s : Tx} {l : List Pc} {m : Nat} (h : m ≤ s.length) (hb : mt l (s.drop m) = false) : rowP s l (m + 1) = rowP s l m := by
  rw [rowP_split h, rowP_succ, hb]
theorem rowP_at (s : Tx) (l : List Pc) (m : Nat) : (rowP s l (m + 1))[m]? = some (D.bool false) := by
  rw [rowP_succ]
  simp
theorem rowP_next {s : Tx} {l : List Pc} {m : Nat} (h : m + 1 ≤ s.length) : (rowP s l (m + 1))[m + 1]? = some (D.bool (mt l (s.drop (m + 1)))) := by
  rw [rowP_split h]
  simp
theorem rowP_zero (s : Tx) (l : List Pc) : rowP s l 0 = rowB s l := by
  unfold rowP rowB
  rw [List.range_eq_range']
  simp
theorem rowP_all (s : Tx) (l : List Pc) : rowP s l (s.length + 1) = List.replicate (s.length + 1) (D.bool false) := by
  simp [rowP]
theorem drop_at {s : Tx} {m : Nat} (h : m < s.length) : s.drop m = s[m] :: s.drop (m + 1) := List.drop_eq_getElem_cons h
theorem mt_many_drop {R : List Pc} {s : Tx} {m : Nat} (h : m < s.length) : mt (.many :: R) (s.drop m) = (mt R (s.drop m) || mt (.many :: R) (s.drop (m + 1))) := by
  rw [drop_at h]
  rfl
theorem room4 {n : Nat} (h : n ≤ 100000000) : roomB n 1 = true := room1 (by omega)
theorem g10_11 (s : Tx) (hs : s.length ≤ 4194304) (X R : List Pc) (p : Pc) (hX : X.length ≤ 1000) {res : AV × Objs}
    (cont : Goes Γ W10 10 7 ⟨[(1, .s s), (6, .sl 44 .any ((X ++ p :: R).map dpc)), (8, .ref 4 0), (9, .i .i64 ((X.length : Int) - 1))], [some (.arr 4 (rowB s (p :: R)) false)]⟩ res) : ∀ m : Nat, m ≤ s.length + 1 →
    Goes Γ W10 10 11 ⟨[(1, .s s), (6, .sl 44 .any ((X ++ p :: R).map dpc)), (8, .ref 4 0), (9, .i .i64 (X.length : Int)), (10, .ref 4 1), (11, .i .i64 ((m : Int) - 1))], [some (.arr 4 (rowB s R) false), some (.arr 4 (rowP s (p :: R) m) false)]⟩ res
  | 0, _ => by
    refine Goes.er (er_of (fun q => w10_11a _ _ _ _ _ _ _) (er_f (decide_eq_false (by omega)) (er_lab ?_)))
    rw [rowP_zero, wrapI (by omega) (by omega)]
    exact cont
  | m + 1, hm => by
    have ih := g10_11 s hs X R p hX cont m (by omega)
    have e0 : ((m + 1 : Nat) : Int) - 1 = (m : Int) := by omega
    have w1 : IntKind.wrap .i64 ((m : Int) - 1) = (m : Int) - 1 := wrapI (by omega) (by omega)
    rw [e0]
    -- what is written there
    have put : ∀ b : Bool, b = mt (p :: R) (s.drop m) → Goes Γ W10 10 11 ⟨[(1, .s s), (6, .sl 44 .any ((X ++ p :: R).map dpc)), (8, .ref 4 0), (9, .i .i64 (X.length : Int)), (10, .ref 4 1), (11, .i .i64 (IntKind.wrap .i64 ((m : Int) - 1)))], [some (.arr 4 (rowB s R) false), some (.arr 4 (List.set (rowP s (p :: R) (m + 1)) (Int.toNat (m : Int)) (D.bool b)) false)]⟩ res := fun b hb => by
      rw [w1, Int.toNat_natCast, rowP_set (by omega) hb]
      exact ih
    have l5 : (rowB s R).length = s.length + 1 := rowB_len s R
    have l6 : (rowP s (p :: R) (m + 1)).length = s.length + 1 := rowP_len (by omega)
    have in5 : (decide ((0 : Int) ≤ (m : Int)) && decide ((m : Int) < ((rowB s R).length : Int))) = true := by rw [l5, decide_eq_true (by omega), decide_eq_true (by omega)]; rfl
    have in6 : (decide ((0 : Int) ≤ (m : Int)) && decide ((m : Int) < ((rowP s (p :: R) (m + 1)).length : Int))) = true := by rw [l6, decide_eq_true (by omega), decide_eq_true (by omega)]; rfl
    have at6 : (rowP s (p :: R) (m + 1))[Int.toNat (m : Int)]? = some (D.bool false) := by rw [Int.toNat_natCast]; exact rowP_at _ _ _
    have at5 : (rowB s R)[Int.toNat (m : Int)]? = some (D.bool (mt R (s.drop m))) := by rw [Int.toNat_natCast]; exact rowB_get (by omega)
    have w2 : IntKind.wrap .i64 ((m : Int) + 1) = ((m + 1 : Nat) : Int) := by rw [wrapI (by omega) (by omega)]; omega
    have nx5 : m < s.length → (decide ((0 : Int) ≤ IntKind.wrap .i64 ((m : Int) + 1)) && decide (IntKind.wrap .i64 ((m : Int) + 1) < ((rowB s R).length : Int))) = true := fun h => by rw [w2, l5, decide_eq_true (by omega), decide_eq_true (by omega)]; rfl
    have nx6 : m < s.length → (decide ((0 : Int) ≤ IntKind.wrap .i64 ((m : Int) + 1)) && decide (IntKind.wrap .i64 ((m : Int) + 1) < ((rowP s (p :: R) (m + 1)).length : Int))) = true := fun h => by rw [w2, l6, decide_eq_true (by omega), decide_eq_true (by omega)]; rfl
    have gn5 : m < s.length → (rowB s R)[Int.toNat (IntKind.wrap .i64 ((m : Int) + 1))]? = some (D.bool (mt R (s.drop (m + 1)))) := fun h => by rw [w2, Int.toNat_natCast]; exact rowB_get (by omega)
    have gn6 : m < s.length → (rowP s (p :: R) (m + 1))[Int.toNat (IntKind.wrap .i64 ((m : Int) + 1))]? = some (D.bool (mt (p :: R) (s.drop (m + 1)))) := fun h => by rw [w2, Int.toNat_natCast]; exact rowP_next (by omega)
    refine Goes.er (er_of (fun q => w10_11a _ _ _ _ _ _ _) (er_t (decide_eq_true (by omega)) (er_idx (by omega) (dget X p R) ?_)))
    cases p with
    | many =>
      refine er_agg (er_get rfl (er_i (er_t rfl (er_t in5 (er_get at5 (er_b ?_))))))
      refine er_if (fun h1 => er_t in6 (er_get at6 (er_lab (put true ?_)))) fun h1 => ?_
      · by_cases hlt : m < s.length
        · rw [mt_many_drop hlt, h1]; rfl
        · have : s.drop m = [] := List.drop_eq_nil_of_le (by omega)
          rw [this] at h1 ⊢
          exact h1.symm
      · by_cases hlt : m < s.length
        · refine er_t (decide_eq_true (by omega)) (er_t (nx6 hlt) (er_get (gn6 hlt) (er_b (er_t in6 (er_get at6 (er_lab (put _ ?_)))))))
          rw [mt_many_drop hlt, h1]; rfl
        · refine er_f (decide_eq_false (by omega)) (er_t in6 (er_get at6 (er_lab (put false ?_))))
          have : s.drop m = [] := List.drop_eq_nil_of_le (by omega)
          rw [this] at h1 ⊢
          exact h1.symm
    | one =>
      refine er_agg (er_get rfl (er_i (er_f rfl ?_)))
      by_cases hlt : m < s.length
      · have hm2 : mt (.one :: R) (s.drop m) = mt R (s.drop (m + 1)) := by rw [drop_at hlt]; rfl
        refine er_t (decide_eq_true (by omega)) (er_t (nx5 hlt) (er_get (gn5 hlt) (er_b (er_if (fun h1 => ?_) fun h1 => ?_))))
        · exact er_idx (by omega) (dget X _ R) (er_agg (er_get rfl (er_i (er_t rfl (er_t in6 (er_get at6 (er_lab (put true (by rw [hm2, h1])))))))))
        · exact er_t in6 (er_get at6 (er_lab (put false (by rw [hm2, h1]))))
      · refine er_f (decide_eq_false (by omega)) (er_lab ?_)
        rw [w1, rowP_keep (by omega) (by rw [List.drop_eq_nil_of_le (by omega)]; rfl)]
        exact ih
    | ex b =>
      refine er_agg (er_get rfl (er_i (er_f rfl ?_)))
      by_cases hlt : m < s.length
      · have hm2 : mt (.ex b :: R) (s.drop m) = ((b == s[m]) && mt R (s.drop (m + 1))) := by rw [drop_at hlt]; rfl
        refine er_t (decide_eq_true (by omega)) (er_t (nx5 hlt) (er_get (gn5 hlt) (er_b (er_if (fun h1 => ?_) fun h1 => ?_))))
        · refine er_idx (by omega) (dget X _ R) (er_agg (er_get rfl (er_i (er_f rfl (er_idx (by omega) (dget X _ R) (er_agg (er_get rfl (er_c (er_idx (y := s[m]) (by omega) (by rw [Int.toNat_natCast]; exact List.getElem?_eq_getElem hlt) (er_t in6 (er_get at6 (er_lab (put _ ?_)))))))))))))
          rw [hm2, h1, Bool.and_true, Bool.eq_iff_iff, beq_iff_eq, beq_iff_eq, ← UInt8.toNat_inj]
          omega
        · exact er_t in6 (er_get at6 (er_lab (put false (by rw [hm2, h1, Bool.and_false]))))
      · refine er_f (decide_eq_false (by omega)) (er_lab ?_)
        rw [w1, rowP_keep (by omega) (by rw [List.drop_eq_nil_of_le (by omega)]; rfl)]
        exact ih
theorem g10_7 (s : Tx) (hs : s.length ≤ 4194304) : ∀ (k : Nat) (X R : List Pc), X.length = k → k ≤ 1000 →
    Goes Γ W10 10 7 ⟨[(1, .s s), (6, .sl 44 .any ((X ++ R).map dpc)), (8, .ref 4 0), (9, .i .i64 ((X.length : Int) - 1))], [some (.arr 4 (rowB s R) false)]⟩ (M9 (mt (X ++ R) s))
  | 0, X, R, hX, _ => by
    have hX := List.eq_nil_of_length_eq_zero hX
    subst hX
    exact Goes.er (er_of (fun q => w10_7a _ _ _ _ _) (er_f rfl (er_t (by rw [rowB_len, decide_eq_true (by omega), decide_eq_true (by omega)]; rfl) (er_get (rowB_get (by omega)) (er_b (er_is rfl))))))
  | k + 1, X, R, hX, hk => by
    obtain ⟨Y, p, rfl⟩ : ∃ Y p, X = Y ++ [p] := by
      rcases List.eq_nil_or_concat X with h | ⟨Y, p, h⟩
      · rw [h] at hX; cases hX
      · exact ⟨Y, p, by rw [h, List.concat_eq_append]⟩
    have hY : Y.length = k := by simpa using hX
    have e1 : Y ++ [p] ++ R = Y ++ p :: R := by simp
    have e2 : (((Y ++ [p]).length : Nat) : Int) - 1 = (Y.length : Int) := by simp
    rw [e1, e2]
    have w2 : IntKind.wrap .i64 ((List.length s : Int) + 1) = ((s.length + 1 : Nat) : Int) := by rw [wrapI (by omega) (by omega)]; omega
    have ih := g10_7 s hs k Y (p :: R) hY (by omega)
    refine Goes.er (er_of (fun q => w10_7a _ _ _ _ _) (er_t (decide_eq_true (by omega)) (er_t (by rw [w2, decide_eq_true (by omega), decide_eq_true (by omega), Int.toNat_natCast, room1 (by omega)]; rfl) (er_lab ?_))))
    rw [w2, Int.toNat_natCast, ← rowP_all s (p :: R)]
    have := g10_11 s hs Y R p (by omega) ih (s.length + 1) (Nat.le_refl _)
    have e3 : ((s.length + 1 : Nat) : Int) - 1 = (s.length : Int) := by omega
    rw [e3] at this
    exact this
theorem rowP_empty (s : Tx) : ∀ m, m ≤ s.length → rowP s [] m = rowB s []
  | 0, _ => rowP_zero s []
  | m + 1, h => by
    rw [rowP_keep (by omega), rowP_empty s m (by omega)]
    have : s.drop m ≠ [] := by
      intro e
      have := congrArg List.length e
      simp at this
      omega
    cases hd : s.drop m with
    | nil => exact absurd hd this
    | cons _ _ => rfl
theorem row_begin (s : Tx) : List.set (List.replicate (s.length + 1) (D.bool false)) s.length (D.bool true) = rowB s [] := by
  rw [← rowP_all s [], rowP_set (Nat.le_refl _) (by rw [List.drop_length]; rfl)]
  exact rowP_empty s _ (Nat.le_refl _)
theorem W10_ok : CallsOK Γ W10 := specs_ok (.cons sp21_ok .nil)
theorem sp10_ok : SpecOK Γ ⟨10, dat (sp2 (fun p s => short p && short s) fun p s => .tuple [.b (okP p && mt (pcs p).1 s), .i .i64 (erP p)])⟩ := sp2_ok fun p s h => by
  simp only [Bool.and_eq_true] at h
  have hs := short_le h.2
  have : EXR (.tuple [.b (okP p && mt (pcs p).1 s), .i .i64 (erP p)], []) fun q => evF Γ W10 (L Γ W10 10 q) 10 [.s p, .s s] [] := by
    refine er_of (fun q => w10 _ _ _) (er_t h.1 ?_)
    unfold erP
    cases ho : okP p with
    | false => exact er_t rfl (er_is rfl)
    | true =>
      have hl := okP_pcs ho
      have w2 : IntKind.wrap .i64 ((List.length s : Int) + 1) = ((s.length + 1 : Nat) : Int) := by rw [wrapI (by omega) (by omega)]; omega
      have hr : rpl p = ((pcs p).1 ++ []).map dpc := by unfold rpl; rw [decide_eq_true (okP_len ho).1, List.append_nil]; rfl
      refine er_f rfl (er_t (by rw [w2, decide_eq_true (by omega), decide_eq_true (by omega), Int.toNat_natCast, room1 (by omega)]; rfl) ?_)
      rw [w2, Int.toNat_natCast, Int.toNat_natCast, hr]
      refine er_t (by rw [List.length_replicate, decide_eq_true (by omega), decide_eq_true (by omega)]; rfl) (er_get (y := D.bool false) (by simp) (er_lab ?_))
      rw [row_begin, wrapI (by simp; omega) (by simp; omega)]
      have := g10_7 s hs _ (pcs p).1 [] rfl (by omega)
      have e : ((((pcs p).1 ++ []).map dpc).length : Int) - 1 = ((pcs p).1.length : Int) - 1 := by simp
      rw [e]
      rw [show mt ((pcs p).1 ++ []) s = mt (pcs p).1 s by rw [List.append_nil]] at this
      exact this
  obtain ⟨k, hk⟩ := this
  exact ret_goes (Γ := Γ) hP hZ W10_ok (by kernel_rfl) ⟨k, hk⟩
end Go.Proofs.Ytbdekjlnnbjicaa.V

/- Sound, Least, Plain of both, the document's Quote. -/
namespace Go.Proofs.Ytbdekjlnnbjicaa.V
open Go
set_option maxRecDepth 100000
set_option linter.unusedVariables false
set_option linter.unusedSimpArgs false

theorem W11_ok : CallsOK Γ W11 := specs_ok (.cons sp19_ok .nil)
theorem W12_ok : CallsOK Γ W12 := specs_ok (.cons sp21_ok .nil)
theorem sp11_ok : SpecOK Γ ⟨11, dat (sp1 short fun p => .b (okP p))⟩ := sp1_ok fun p h =>
  ret_goes (Γ := Γ) hP hZ W11_ok (by kernel_rfl) ⟨0, by rw [w11, h]; rfl⟩
theorem sp12_ok : SpecOK Γ ⟨12, dat (sp1 short fun p => .b (okP p))⟩ := sp1_ok fun p h =>
  ret_goes (Γ := Γ) hP hZ W12_ok (by kernel_rfl) ⟨0, by rw [w12, h]; rfl⟩
theorem wI {n : Int} (h0 : 0 ≤ n) (h1 : n ≤ 1000000000) : IntKind.wrap .i64 (n + 1) = n + 1 := wrapI (by omega) (by omega)
/-! ### Least -/
def R15 (n : Nat) : AV × Objs := (.tuple [.i .i64 (n : Int), .i .i64 0], [])
theorem snoc_app (X : List Pc) (p : Pc) (R : List Pc) : X ++ [p] ++ R = X ++ p :: R := by simp
theorem snoc_len (X : List Pc) (p : Pc) : (((X ++ [p]).length : Nat) : Int) = (X.length : Int) + 1 := by simp
theorem g15 : ∀ (R X : List Pc) (c : Nat), (X ++ R).length ≤ 1000 → c ≤ X.length →
    Goes Γ W15 15 6 ⟨[(6, .i .i64 (c : Int)), (16, .sl 37 .any ((X ++ R).map dpc)), (17, .i .i64 (((X ++ R).length : Nat) : Int)), (18, .i .i64 (X.length : Int))], []⟩ (R15 (c + lstL R))
  | [], X, c, h, hc => Goes.er (er_of (fun q => w15_6a _ _ _ _ _) (er_f (decide_eq_false (by simp)) (er_is rfl)))
  | p :: R, X, c, h, hc => by
    have hl : (X ++ p :: R).length = X.length + R.length + 1 := by simp; omega
    have ih := g15 R (X ++ [p])
    rw [snoc_app, snoc_len] at ih
    have w1 := wI (n := (X.length : Int)) (by omega) (by omega)
    have w2 := wI (n := (c : Int)) (by omega) (by omega)
    have e1 : ((c : Int) + 1) = ((c + 1 : Nat) : Int) := by omega
    refine Goes.er (er_of (fun q => w15_6a _ _ _ _ _) (er_t (decide_eq_true (by omega)) (er_idx (by omega) (dget X p R) ?_)))
    cases p with
    | many =>
      refine er_agg (er_lc (er_i (er_lc (er_c (er_ln (er_f rfl (er_lab ?_)))))))
      rw [w1]
      exact ih c h (by simp; omega)
    | one =>
      refine er_agg (er_lc (er_i (er_lc (er_c (er_ln (er_t rfl (er_lab ?_)))))))
      rw [w1, w2, e1, show c + lstL (.one :: R) = c + 1 + lstL R by simp [lstL]; omega]
      exact ih (c + 1) h (by simp; omega)
    | ex b =>
      refine er_agg (er_lc (er_i (er_lc (er_c (er_ln (er_t rfl (er_lab ?_)))))))
      rw [w1, w2, e1, show c + lstL (.ex b :: R) = c + 1 + lstL R by simp [lstL]; omega]
      exact ih (c + 1) h (by simp; omega)
theorem g16r : ∀ (R X : List Pc) (c : Nat), (X ++ R).length ≤ 1000 → c ≤ X.length →
    Goes Γ W16 16 6 ⟨[(4, .sl 44 .any ((X ++ R).map dpc)), (6, .i .i64 (c : Int)), (7, .i .i64 (X.length : Int))], []⟩ (R15 (c + lstL R))
  | [], X, c, h, hc => Goes.er (er_of (fun q => w16_6a _ _ _ _) (er_f (decide_eq_false (by simp)) (er_is rfl)))
  | p :: R, X, c, h, hc => by
    have hl : (X ++ p :: R).length = X.length + R.length + 1 := by simp; omega
    have ih := g16r R (X ++ [p])
    rw [snoc_app, snoc_len] at ih
    have w1 := wI (n := (X.length : Int)) (by omega) (by omega)
    have w2 := wI (n := (c : Int)) (by omega) (by omega)
    have e1 : ((c : Int) + 1) = ((c + 1 : Nat) : Int) := by omega
    refine Goes.er (er_of (fun q => w16_6a _ _ _ _) (er_t (decide_eq_true (by rw [List.length_map]; omega)) (er_idx (by omega) (dget X p R) ?_)))
    cases p with
    | many =>
      refine er_agg (er_get rfl (er_i (er_f rfl (er_lab ?_))))
      rw [w1]
      exact ih c h (by simp; omega)
    | one =>
      refine er_agg (er_get rfl (er_i (er_t rfl (er_lab ?_))))
      rw [w1, w2, e1, show c + lstL (.one :: R) = c + 1 + lstL R by simp [lstL]; omega]
      exact ih (c + 1) h (by simp; omega)
    | ex b =>
      refine er_agg (er_get rfl (er_i (er_t rfl (er_lab ?_))))
      rw [w1, w2, e1, show c + lstL (.ex b :: R) = c + 1 + lstL R by simp [lstL]; omega]
      exact ih (c + 1) h (by simp; omega)
theorem gpl_ok {p : Tx} (h : okP p = true) : gpl p = ([] ++ (pcs p).1).map dpc := by unfold gpl; rw [h]; rfl
theorem rpl_ok {p : Tx} (h : okP p = true) : rpl p = ([] ++ (pcs p).1).map dpc := by unfold rpl; rw [decide_eq_true (okP_len h).1]; rfl
theorem W15_ok : CallsOK Γ W15 := specs_ok (.cons sp19_ok .nil)
theorem W16_ok : CallsOK Γ W16 := specs_ok (.cons sp21_ok .nil)
theorem lst_is {p : Tx} (h : okP p = true) : lstP p = ((0 + lstL (pcs p).1 : Nat) : Int) := by unfold lstP; rw [h, Nat.zero_add]; rfl
theorem sp15_ok : SpecOK Γ ⟨15, dat (sp1 short fun p => .tuple [.i .i64 (lstP p), .i .i64 (erP p)])⟩ := sp1_ok fun p h => by
  have : EXR (.tuple [.i .i64 (lstP p), .i .i64 (erP p)], []) fun q => evF Γ W15 (L Γ W15 15 q) 15 [.s p] [] := by
    refine er_of (fun q => w15 _ _) (er_t h ?_)
    cases ho : okP p with
    | false => exact er_t rfl (er_is (by unfold lstP erP; rw [ho]; rfl))
    | true =>
      have hl := okP_pcs ho
      refine er_f rfl (er_lab ?_)
      have := g15 (pcs p).1 [] 0 (by simp; omega) (Nat.le_refl _)
      unfold R15 at this
      rw [← lst_is ho] at this
      unfold erP
      rw [ho, gpl_ok ho, List.length_map]
      exact this
  obtain ⟨k, hk⟩ := this
  exact ret_goes (Γ := Γ) hP hZ W15_ok (by kernel_rfl) ⟨k, hk⟩
theorem sp16_ok : SpecOK Γ ⟨16, dat (sp1 short fun p => .tuple [.i .i64 (lstP p), .i .i64 (erP p)])⟩ := sp1_ok fun p h => by
  have : EXR (.tuple [.i .i64 (lstP p), .i .i64 (erP p)], []) fun q => evF Γ W16 (L Γ W16 16 q) 16 [.s p] [] := by
    refine er_of (fun q => w16 _ _) (er_t h ?_)
    cases ho : okP p with
    | false => exact er_t rfl (er_is (by unfold lstP erP; rw [ho]; rfl))
    | true =>
      have hl := okP_pcs ho
      refine er_f rfl (er_lab ?_)
      have := g16r (pcs p).1 [] 0 (by simp; omega) (Nat.le_refl _)
      unfold R15 at this
      rw [← lst_is ho] at this
      unfold erP
      rw [ho, rpl_ok ho]
      exact this
  obtain ⟨k, hk⟩ := this
  exact ret_goes (Γ := Γ) hP hZ W16_ok (by kernel_rfl) ⟨k, hk⟩
/-! ### Plain -/
def R14 (b : Bool) (t : Tx) (o : Option Tx) : AV × Objs := match o with
  | some r => (bif b then (.tuple [.s (t ++ r), .b true], []) else (.tuple [.s [], .b false], []))
  | none => (.tuple [.s [], .b false], [])
theorem R14_cons (b : Bool) (t : Tx) (c : UInt8) (o : Option Tx) : R14 b t (o.map (c :: ·)) = R14 b (t ++ [c]) o := by
  cases o with
  | none => rfl
  | some r => simp [R14]
theorem g14b : ∀ (R X : List Pc) (t : Tx), (X ++ R).length ≤ 1000 → t.length ≤ X.length →
    Goes Γ W14 14 4 ⟨[(5, .b true), (6, .ref 5 0), (14, .sl 37 .any ((X ++ R).map dpc)), (15, .i .i64 (((X ++ R).length : Nat) : Int)), (16, .i .i64 (X.length : Int))], [some (.arr 5 (bytesD t) false)]⟩ (R14 true t (plnO R))
  | [], X, t, h, hc => Goes.er (er_of (fun q => w14_4b _ _ _ _ _ _) (er_f (decide_eq_false (by simp)) (er_kb (er_is (by simp [plnO, R14])))))
  | p :: R, X, t, h, hc => by
    have hl : (X ++ p :: R).length = X.length + R.length + 1 := by simp; omega
    have ih := g14b R (X ++ [p])
    rw [snoc_app, snoc_len] at ih
    have w1 := wI (n := (X.length : Int)) (by omega) (by omega)
    refine Goes.er (er_of (fun q => w14_4b _ _ _ _ _ _) (er_t (decide_eq_true (by omega)) (er_idx (by omega) (dget X p R) ?_)))
    cases p with
    | many => exact er_agg (er_lc (er_i (er_lc (er_c (er_ln (er_t rfl (er_is rfl)))))))
    | one => exact er_agg (er_lc (er_i (er_lc (er_c (er_ln (er_t rfl (er_is rfl)))))))
    | ex b =>
      refine er_agg (er_lc (er_i (er_lc (er_c (er_ln (er_f rfl (er_t (room1 (by rw [bytesD_len]; omega)) (er_lab ?_))))))))
      have := ih (t ++ [b]) h (by simp; omega)
      rw [bytesD_app] at this
      rw [w1, show plnO (.ex b :: R) = (plnO R).map (b :: ·) from rfl, R14_cons]
      exact this
theorem g14a (l : List Pc) (h : l.length ≤ 1000) : Goes Γ W14 14 4 ⟨[(5, .b true), (6, .snil), (14, .sl 37 .any (l.map dpc)), (15, .i .i64 (l.length : Int)), (16, .i .i64 0)], []⟩ (R14 true [] (plnO l)) := by
  cases l with
  | nil => exact Goes.er (er_of (fun q => w14_4a _ _ _ _ _) (er_f (decide_eq_false (by simp)) (er_is rfl)))
  | cons p R =>
    have hl : (p :: R).length = R.length + 1 := rfl
    refine Goes.er (er_of (fun q => w14_4a _ _ _ _ _) (er_t (decide_eq_true (by omega)) (er_idx (by omega) (dget [] p R) ?_)))
    cases p with
    | many => exact er_agg (er_lc (er_i (er_lc (er_c (er_ln (er_t rfl (er_is rfl)))))))
    | one => exact er_agg (er_lc (er_i (er_lc (er_c (er_ln (er_t rfl (er_is rfl)))))))
    | ex b =>
      refine er_agg (er_lc (er_i (er_lc (er_c (er_ln (er_f rfl (er_lab ?_)))))))
      rw [show plnO (.ex b :: R) = (plnO R).map (b :: ·) from rfl, R14_cons]
      exact g14b R [.ex b] [b] h (by simp)
theorem W14_ok : CallsOK Γ W14 := specs_ok (.cons sp19_ok .nil)
theorem W17_ok : CallsOK Γ W17 := specs_ok (.cons sp21_ok .nil)
theorem pln_is {p : Tx} (h : okP p = true) : (AV.tuple [.s (plnS p), .b (plnB p)], ([] : Objs)) = R14 true [] (plnO (pcs p).1) := by
  unfold plnS plnB
  rw [h]
  cases plnO (pcs p).1 <;> rfl
theorem pln_no {p : Tx} (h : okP p = false) : (AV.tuple [.s (plnS p), .b (plnB p)], ([] : Objs)) = (.tuple [.s [], .b false], []) := by
  unfold plnS plnB
  rw [h]; rfl
theorem sp14_ok : SpecOK Γ ⟨14, dat (sp1 short fun p => .tuple [.s (plnS p), .b (plnB p)])⟩ := sp1_ok fun p h => by
  have : EXR (.tuple [.s (plnS p), .b (plnB p)], []) fun q => evF Γ W14 (L Γ W14 14 q) 14 [.s p] [] := by
    refine er_of (fun q => w14 _ _) (er_t h (er_lab ?_))
    cases ho : okP p with
    | false =>
      rw [pln_no ho]
      have hg : gpl p = [] := by unfold gpl; rw [ho]; rfl
      rw [hg]
      exact Goes.er (er_of (fun q => w14_4a _ _ _ _ _) (er_f (decide_eq_false (by simp)) (er_is rfl)))
    | true =>
      have hl := okP_pcs ho
      rw [pln_is ho, gpl_ok ho, List.length_map, List.nil_append]
      exact g14a (pcs p).1 (by omega)
  obtain ⟨k, hk⟩ := this
  exact ret_goes (Γ := Γ) hP hZ W14_ok (by kernel_rfl) ⟨k, hk⟩
theorem g17 : ∀ (b : Bool) (R X : List Pc) (t : Tx), (X ++ R).length ≤ 1000 → t.length ≤ X.length →
    Goes Γ W17 17 4 ⟨[(4, .sl 44 .any ((X ++ R).map dpc)), (5, .b b), (6, .s t), (7, .i .i64 (X.length : Int))], []⟩ (R14 b t (plnO R))
  | b, [], X, t, h, hc => by
    refine Goes.er (er_of (fun q => w17_4a _ _ _ _ _) (er_f (decide_eq_false (by simp)) ?_))
    cases b with
    | false => exact er_t rfl (er_is rfl)
    | true => exact er_f rfl (er_is (by simp [plnO, R14]))
  | b, p :: R, X, t, h, hc => by
    have hl : (X ++ p :: R).length = X.length + R.length + 1 := by simp; omega
    have ih := g17 b R (X ++ [p])
    rw [snoc_app, snoc_len] at ih
    have w1 := wI (n := (X.length : Int)) (by omega) (by omega)
    refine Goes.er (er_of (fun q => w17_4a _ _ _ _ _) (er_t (decide_eq_true (by rw [List.length_map]; omega)) (er_idx (by omega) (dget X p R) ?_)))
    cases p with
    | many => exact er_agg (er_get rfl (er_i (er_t rfl (er_is rfl))))
    | one => exact er_agg (er_get rfl (er_i (er_t rfl (er_is rfl))))
    | ex c =>
      refine er_agg (er_get rfl (er_i (er_f rfl (er_idx (by omega) (dget X _ R) (er_agg (er_get rfl (er_c (er_kb (l := [c]) (er_t (decide_eq_true (by unfold maxStr; simp; omega)) (er_lab ?_))))))))))
      have := ih (t ++ [c]) h (by simp; omega)
      rw [w1, show plnO (.ex c :: R) = (plnO R).map (c :: ·) from rfl, R14_cons]
      exact this
theorem sp17_ok : SpecOK Γ ⟨17, dat (sp1 short fun p => .tuple [.s (plnS p), .b (plnB p)])⟩ := sp1_ok fun p h => by
  have : EXR (.tuple [.s (plnS p), .b (plnB p)], []) fun q => evF Γ W17 (L Γ W17 17 q) 17 [.s p] [] := by
    refine er_of (fun q => w17 _ _) (er_t h (er_lab ?_))
    cases ho : okP p with
    | false =>
      rw [pln_no ho]
      have hR : ∀ o, R14 false [] o = (.tuple [.s [], .b false], []) := fun o => by cases o <;> rfl
      by_cases hl : p.length ≤ 200
      · have hg : rpl p = ([] ++ (pcs p).1).map dpc := by unfold rpl; rw [decide_eq_true hl]; rfl
        have h1 := pcs_len _ p (Nat.le_refl _)
        have := g17 false (pcs p).1 [] [] (by simp; omega) (by simp)
        rw [hR] at this
        rw [hg]
        exact this
      · have hg : rpl p = [] := by unfold rpl; rw [decide_eq_false hl]; rfl
        have := g17 false [] [] [] (by simp) (by simp)
        rw [hg]
        exact this
    | true =>
      have hl := okP_pcs ho
      rw [pln_is ho, rpl_ok ho]
      exact g17 true (pcs p).1 [] [] (by simp; omega) (by simp)
  obtain ⟨k, hk⟩ := this
  exact ret_goes (Γ := Γ) hP hZ W17_ok (by kernel_rfl) ⟨k, hk⟩
/-! ### the document's Quote -/
theorem one_of (pre : Tx) (c : UInt8) (rest : Tx) (h : pre.length ≤ 1000000000) : List.take ((Int.toNat (IntKind.wrap .i64 ((pre.length : Int) + 1))) - (Int.toNat (pre.length : Int))) (List.drop (Int.toNat (pre.length : Int)) (pre ++ c :: rest)) = [c] := by
  rw [w_one pre h, Int.toNat_natCast, show ((pre.length : Int) + 1).toNat = pre.length + 1 by omega, List.drop_left, show pre.length + 1 - pre.length = 1 by omega]
  rfl
theorem g18 : ∀ (rest pre : Tx), (pre ++ rest).length ≤ 4194304 → Goes Γ (runS []) 18 3 ⟨[(0, .s (pre ++ rest)), (3, .s (quoteL pre)), (4, .i .i64 (pre.length : Int))], []⟩ (.s (quoteL (pre ++ rest)), [])
  | [], pre, h => by
    refine Goes.er (er_of (fun q => w18_3a _ _ _ _) (er_f (decide_eq_false (by rw [List.append_nil]; omega)) (er_is ?_)))
    rw [List.append_nil]
  | c :: rest, pre, h => by
    have hlen : (pre ++ c :: rest).length = pre.length + rest.length + 1 := by simp; omega
    have hq := quote_len pre
    have hn := numS_le pre
    have ih := g18 rest (pre ++ [c]) (by rw [List.append_assoc]; exact h)
    rw [List.append_assoc, quote_app] at ih
    have w1 := w_next pre c (by omega)
    have w2 := w_one pre (by omega)
    have b1 : (decide ((0 : Int) ≤ IntKind.wrap .i64 ((pre.length : Int) + 1)) && decide (IntKind.wrap .i64 ((pre.length : Int) + 1) ≤ ((pre ++ c :: rest).length : Int))) = true := by rw [w2, decide_eq_true (by omega), decide_eq_true (by omega)]; rfl
    have b2 : (decide ((0 : Int) ≤ (pre.length : Int)) && decide ((pre.length : Int) ≤ (Int.toNat (IntKind.wrap .i64 ((pre.length : Int) + 1)) : Int))) = true := by rw [w2, decide_eq_true (by omega), decide_eq_true (by omega)]; rfl
    have b0 : decide ((quoteL pre).length + ([92] : Tx).length ≤ maxStr) = true := decide_eq_true (by unfold maxStr; simp; omega)
    have b3 : decide ((quoteL pre ++ [92]).length + (List.take ((Int.toNat (IntKind.wrap .i64 ((pre.length : Int) + 1))) - (Int.toNat (pre.length : Int))) (List.drop (Int.toNat (pre.length : Int)) (pre ++ c :: rest))).length ≤ maxStr) = true := by
      rw [one_of pre c rest (by omega)]; exact decide_eq_true (by unfold maxStr; simp; omega)
    have b4 : decide ((quoteL pre).length + (List.take ((Int.toNat (IntKind.wrap .i64 ((pre.length : Int) + 1))) - (Int.toNat (pre.length : Int))) (List.drop (Int.toNat (pre.length : Int)) (pre ++ c :: rest))).length ≤ maxStr) = true := by
      rw [one_of pre c rest (by omega)]; exact decide_eq_true (by unfold maxStr; simp; omega)
    have next : spc c = true → Goes Γ (runS []) 18 3 ⟨[(0, .s (pre ++ c :: rest)), (3, .s ((quoteL pre ++ ([92] : Tx)) ++ (List.take ((Int.toNat (IntKind.wrap .i64 ((pre.length : Int) + 1))) - (Int.toNat (pre.length : Int))) (List.drop (Int.toNat (pre.length : Int)) (pre ++ c :: rest))))), (4, .i .i64 (IntKind.wrap .i64 ((pre.length : Int) + 1)))], []⟩ (.s (quoteL (pre ++ c :: rest)), []) := fun hc => by
      rw [one_of pre c rest (by omega), w1]
      have h1 : quoteL [c] = [92, c] := by simp [quoteL, hc]
      rw [h1] at ih
      rw [List.append_assoc]
      exact ih
    refine Goes.er (er_of (fun q => w18_3a _ _ _ _) (er_t (decide_eq_true (by omega)) (er_idx (by omega) (mid_get pre c rest) ?_)))
    by_cases h42 : c = 42
    · exact er_t (by rw [is42, decide_eq_true h42]) (er_t b0 (er_t b1 (er_t b2 (er_t b3 (er_lab (next (by rw [h42]; rfl)))))))
    refine er_f (by rw [is42, decide_eq_false h42]) (er_idx (by omega) (mid_get pre c rest) ?_)
    by_cases h63 : c = 63
    · exact er_t (by rw [is63, decide_eq_true h63]) (er_t b0 (er_t b1 (er_t b2 (er_t b3 (er_lab (next (by rw [h63]; rfl)))))))
    refine er_f (by rw [is63, decide_eq_false h63]) (er_idx (by omega) (mid_get pre c rest) ?_)
    by_cases h92 : c = 92
    · exact er_t (by rw [is92, decide_eq_true h92]) (er_t b0 (er_t b1 (er_t b2 (er_t b3 (er_lab (next (by rw [h92]; rfl)))))))
    refine er_f (by rw [is92, decide_eq_false h92]) (er_t b1 (er_t b2 (er_t b4 (er_lab ?_))))
    have hc : spc c = false := by
      have e1 : (c == 42) = false := by simpa using h42
      have e2 : (c == 63) = false := by simpa using h63
      have e3 : (c == 92) = false := by simpa using h92
      simp [spc, e1, e2, e3]
    rw [one_of pre c rest (by omega), w1]
    have h1 : quoteL [c] = [c] := by simp [quoteL, hc]
    rw [h1] at ih
    exact ih
theorem sp18_ok : SpecOK Γ ⟨18, dat (sp1 short fun p => .s (quoteL p))⟩ := sp1_ok fun p h => by
  have : EXR (.s (quoteL p), []) fun q => evF Γ (runS []) (L Γ (runS []) 18 q) 18 [.s p] [] :=
    er_of (fun q => w18 _ _) (er_lab (g18 p [] (short_le h)))
  obtain ⟨k, hk⟩ := this
  exact ret_goes (Γ := Γ) hP hZ none_ok (by kernel_rfl) ⟨k, hk⟩
end Go.Proofs.Ytbdekjlnnbjicaa.V

/- What the machine over values makes of the laws: equations, written by program. -/
namespace Go.Proofs.Ytbdekjlnnbjicaa.V
open Go
set_option maxRecDepth 100000
set_option linter.unusedVariables false
set_option linter.unusedSimpArgs false
def W8 : Handle := runS [⟨9, dat (sp2 (fun p s => short p && short s) fun p s => .tuple [.b (okP p && mt (pcs p).1 s), .i .i64 (erP p)])⟩, ⟨14, dat (sp1 short fun p => .tuple [.s (plnS p), .b (plnB p)])⟩, ⟨13, dat (sp1 short fun p => .s (quoteL p))⟩, ⟨11, dat (sp1 short fun p => .b (okP p))⟩]
theorem w8 (lab : Lab) : evF Γ W8 lab 8 [] [] =
  bif short ([97, 42, 63, 99] : List UInt8) && short ([97, 98, 98, 99] : List UInt8) then (bif short ([97, 92, 42] : List UInt8) && short ([97, 98] : List UInt8) then (bif short ([97, 92, 42, 98] : List UInt8) then (bif (erP ([97, 42, 63, 99] : List UInt8)) == 0 then (bif (erP ([97, 92, 42] : List UInt8)) == 0 then (bif okP ([97, 42, 63, 99] : List UInt8) && mt (pcs ([97, 42, 63, 99] : List UInt8)).1 ([97, 98, 98, 99] : List UInt8) then (bif !(okP ([97, 92, 42] : List UInt8) && mt (pcs ([97, 92, 42] : List UInt8)).1 ([97, 98] : List UInt8)) then (bif plnB ([97, 92, 42, 98] : List UInt8) then (bif ((plnS ([97, 92, 42, 98] : List UInt8))) == ([97, 42, 98] : List UInt8) then (bif short ([42] : List UInt8) then (bif ((quoteL ([42] : List UInt8))) == ([92, 42] : List UInt8) then (bif short ([92] : List UInt8) then (some (.b (!(okP ([92] : List UInt8))), [])) else none) else (some (.b false, []))) else none) else (some (.b false, []))) else (some (.b false, []))) else (some (.b false, []))) else (some (.b false, []))) else (some (.b false, []))) else (some (.b false, []))) else none) else none) else none := by kernel_rfl
def W3 : Handle := runS [⟨8, dat (sp0 true (.b true))⟩, ⟨9, dat (sp2 (fun p s => short p && short s) fun p s => .tuple [.b (okP p && mt (pcs p).1 s), .i .i64 (erP p)])⟩, ⟨10, dat (sp2 (fun p s => short p && short s) fun p s => .tuple [.b (okP p && mt (pcs p).1 s), .i .i64 (erP p)])⟩, ⟨11, dat (sp1 short fun p => .b (okP p))⟩, ⟨12, dat (sp1 short fun p => .b (okP p))⟩]
theorem w3 (lab : Lab) (p : List UInt8) (s : List UInt8) : evF Γ W3 lab 3 [.s p, .s s] [] =
  bif decide (((List.length s : Int)) > 3000) then (some (.b true, [])) else (bif short p && short s then (bif short p && short s then (bif true then (bif (okP p && mt (pcs p).1 s) == (okP p && mt (pcs p).1 s) then (bif (erP p) == (erP p) then (bif short p then (bif short p then (some (.b ((okP p) == (okP p)), [])) else none) else none) else (some (.b false, []))) else (some (.b false, []))) else (some (.b false, []))) else none) else none) := by kernel_rfl
def W6 : Handle := runS [⟨8, dat (sp0 true (.b true))⟩, ⟨15, dat (sp1 short fun p => .tuple [.i .i64 (lstP p), .i .i64 (erP p)])⟩, ⟨16, dat (sp1 short fun p => .tuple [.i .i64 (lstP p), .i .i64 (erP p)])⟩, ⟨14, dat (sp1 short fun p => .tuple [.s (plnS p), .b (plnB p)])⟩, ⟨17, dat (sp1 short fun p => .tuple [.s (plnS p), .b (plnB p)])⟩, ⟨13, dat (sp1 short fun p => .s (quoteL p))⟩, ⟨18, dat (sp1 short fun p => .s (quoteL p))⟩]
theorem w6 (lab : Lab) (p : List UInt8) : evF Γ W6 lab 6 [.s p] [] =
  bif short p then (bif short p then (bif short p then (bif short p then (bif true then (bif (lstP p) == (lstP p) then (bif (erP p) == (erP p) then (bif ((plnS p)) == ((plnS p)) then (bif (plnB p) == (plnB p) then (bif short p then (bif short p then (some (.b (((quoteL p)) == ((quoteL p))), [])) else none) else none) else (some (.b false, []))) else (some (.b false, []))) else (some (.b false, []))) else (some (.b false, []))) else (some (.b false, []))) else none) else none) else none) else none := by kernel_rfl
def W4 : Handle := runS [⟨8, dat (sp0 true (.b true))⟩, ⟨13, dat (sp1 short fun p => .s (quoteL p))⟩, ⟨9, dat (sp2 (fun p s => short p && short s) fun p s => .tuple [.b (okP p && mt (pcs p).1 s), .i .i64 (erP p)])⟩, ⟨14, dat (sp1 short fun p => .tuple [.s (plnS p), .b (plnB p)])⟩]
theorem w4 (lab : Lab) (s : List UInt8) (t : List UInt8) : evF Γ W4 lab 4 [.s s, .s t] [] =
  bif short s then (bif short ((quoteL s)) && short s then (bif short ((quoteL s)) && short t then (bif decide (((List.length ((quoteL s)) : Int)) > 200) then (bif true then (bif (erP ((quoteL s))) == 2 then (some (.b ((erP ((quoteL s))) == (erP ((quoteL s)))), [])) else (some (.b false, []))) else (some (.b false, []))) else (bif short ((quoteL s)) then (bif true then (bif (erP ((quoteL s))) == 0 then (bif (erP ((quoteL s))) == 0 then (bif okP ((quoteL s)) && mt (pcs ((quoteL s))).1 s then (bif (okP ((quoteL s)) && mt (pcs ((quoteL s))).1 t) == (s == t) then (bif plnB ((quoteL s)) then (some (.b (((plnS ((quoteL s)))) == s), [])) else (some (.b false, []))) else (some (.b false, []))) else (some (.b false, []))) else (some (.b false, []))) else (some (.b false, []))) else (some (.b false, []))) else none)) else none) else none) else none := by kernel_rfl
def W7 : Handle := runS [⟨8, dat (sp0 true (.b true))⟩, ⟨9, dat (sp2 (fun p s => short p && short s) fun p s => .tuple [.b (okP p && mt (pcs p).1 s), .i .i64 (erP p)])⟩, ⟨15, dat (sp1 short fun p => .tuple [.i .i64 (lstP p), .i .i64 (erP p)])⟩]
theorem w7 (lab : Lab) (p : List UInt8) (s : List UInt8) (t : List UInt8) : evF Γ W7 lab 7 [.s p, .s s, .s t] [] =
  bif short p && short s then (bif !true then (some (.b true, [])) else (bif (erP p) != 0 then (some (.b true, [])) else (bif !(okP p && mt (pcs p).1 s) then (some (.b true, [])) else (bif decide (((List.length p : Int)) ≥ 200) then (some (.b true, [])) else (bif decide (((List.length s : Int)) > 1000) then (some (.b true, [])) else (bif decide (((List.length t : Int)) > 1000) then (some (.b true, [])) else (bif decide (List.length p + List.length ([42] : List UInt8) ≤ maxStr) then (bif decide (List.length s + List.length t ≤ maxStr) then (bif short (p ++ ([42] : List UInt8)) && short (s ++ t) then (bif decide (List.length ([42] : List UInt8) + List.length p ≤ maxStr) then (bif decide (List.length t + List.length s ≤ maxStr) then (bif short (([42] : List UInt8) ++ p) && short (t ++ s) then (bif short p then (bif (erP (p ++ ([42] : List UInt8))) == 0 then (bif (erP (([42] : List UInt8) ++ p)) == 0 then (bif (erP p) == 0 then (bif okP (p ++ ([42] : List UInt8)) && mt (pcs (p ++ ([42] : List UInt8))).1 (s ++ t) then (bif okP (([42] : List UInt8) ++ p) && mt (pcs (([42] : List UInt8) ++ p)).1 (t ++ s) then (some (.b (decide ((lstP p) ≤ ((List.length s : Int)))), [])) else (some (.b false, []))) else (some (.b false, []))) else (some (.b false, []))) else (some (.b false, []))) else (some (.b false, []))) else none) else none) else none) else none) else none) else none) else none))))))) else none := by kernel_rfl
def W5 : Handle := runS [⟨8, dat (sp0 true (.b true))⟩, ⟨9, dat (sp2 (fun p s => short p && short s) fun p s => .tuple [.b (okP p && mt (pcs p).1 s), .i .i64 (erP p)])⟩, ⟨11, dat (sp1 short fun p => .b (okP p))⟩]
theorem w5 (lab : Lab) (p : List UInt8) (q : List UInt8) (s : List UInt8) : evF Γ W5 lab 5 [.s p, .s q, .s s] [] =
  bif decide (((List.length s : Int)) > 60) then (some (.b true, [])) else (bif short p then (bif !(okP p) then (some (.b true, [])) else (bif short q then (bif !(okP q) then (some (.b true, [])) else (bif decide ((IntKind.wrap .i64 (((List.length p : Int)) + ((List.length q : Int)))) > 200) then (some (.b true, [])) else (bif decide (List.length p + List.length q ≤ maxStr) then (bif short (p ++ q) && short s then (lab (todoAt Γ 5 6) ⟨[(0, .s p), (1, .s q), (2, .s s), (7, .b (okP (p ++ q) && mt (pcs (p ++ q)).1 s)), (8, .i .i64 (erP (p ++ q))), (9, .b false), (10, .i .i64 0)], []⟩) else none) else none))) else none)) else none) := by kernel_rfl
theorem w5_6a (lab : Lab) (s1 : List UInt8) (s2 : List UInt8) (s3 : List UInt8) (b4 : Bool) (n5 : Int) (b6 : Bool) (n7 : Int) : evL Γ W5 lab 5 6 ⟨[(0, .s s1), (1, .s s2), (2, .s s3), (7, .b b4), (8, .i .i64 n5), (9, .b b6), (10, .i .i64 n7)], []⟩ =
  bif decide (n7 ≤ ((List.length s3 : Int))) then (bif decide ((0:Int) ≤ n7) && decide (n7 ≤ (List.length s3 : Int)) then (bif short s1 && short (List.take ((Int.toNat n7) - 0) (List.drop 0 s3)) then (bif decide ((0:Int) ≤ n7) && decide (n7 ≤ (List.length s3 : Int)) then (bif short s2 && short (List.take ((List.length s3) - (Int.toNat n7)) (List.drop (Int.toNat n7) s3)) then (bif (erP s1) != 0 then (some (.b false, [])) else (bif (erP s2) != 0 then (some (.b false, [])) else (bif b6 then (lab (todoAt Γ 5 6) ⟨[(0, .s s1), (1, .s s2), (2, .s s3), (7, .b b4), (8, .i .i64 n5), (9, .b true), (10, .i .i64 (IntKind.wrap .i64 (n7 + 1)))], []⟩) else (bif okP s1 && mt (pcs s1).1 (List.take ((Int.toNat n7) - 0) (List.drop 0 s3)) then (lab (todoAt Γ 5 6) ⟨[(0, .s s1), (1, .s s2), (2, .s s3), (7, .b b4), (8, .i .i64 n5), (9, .b (okP s2 && mt (pcs s2).1 (List.take ((List.length s3) - (Int.toNat n7)) (List.drop (Int.toNat n7) s3)))), (10, .i .i64 (IntKind.wrap .i64 (n7 + 1)))], []⟩) else (lab (todoAt Γ 5 6) ⟨[(0, .s s1), (1, .s s2), (2, .s s3), (7, .b b4), (8, .i .i64 n5), (9, .b false), (10, .i .i64 (IntKind.wrap .i64 (n7 + 1)))], []⟩))))) else none) else none) else none) else none) else (bif true then (bif n5 == 0 then (some (.b (b4 == b6), [])) else (some (.b false, []))) else (some (.b false, []))) := by kernel_rfl
end Go.Proofs.Ytbdekjlnnbjicaa.V

/- The laws. -/
namespace Go.Proofs.Ytbdekjlnnbjicaa.V
open Go
set_option maxRecDepth 100000
set_option linter.unusedVariables false
set_option linter.unusedSimpArgs false

theorem W8_ok : CallsOK Γ W8 := specs_ok (.cons sp9_ok (.cons sp14_ok (.cons sp13_ok (.cons sp11_ok .nil))))
theorem sp8_ok : SpecOK Γ ⟨8, dat (sp0 true (.b true))⟩ := sp0_ok fun _ =>
  ret_goes (Γ := Γ) hP hZ W8_ok (by kernel_rfl) ⟨0, by rw [w8]; kernel_rfl⟩
theorem beqT {c : Bool} : (c == c) = true := by cases c <;> rfl
theorem beqI {n : Int} : (n == n) = true := beq_self_eq_true n
theorem W3_ok : CallsOK Γ W3 := specs_ok (.cons sp8_ok (.cons sp9_ok (.cons sp10_ok (.cons sp11_ok (.cons sp12_ok .nil)))))
theorem law3 (p s : Tx) (hp : short p = true) (hs : short s = true) : RetX Γ 3 [.s p, .s s] [] (.b true) [] :=
  ret_goes (Γ := Γ) hP hZ W3_ok (by kernel_rfl) ⟨0, by
    rw [w3, hp, hs]
    simp only [beqT, beqI, Bool.and_self, cond_true]
    cases decide ((List.length s : Int) > 3000) <;> rfl⟩
theorem W6_ok : CallsOK Γ W6 := specs_ok (.cons sp8_ok (.cons sp15_ok (.cons sp16_ok (.cons sp14_ok (.cons sp17_ok (.cons sp13_ok (.cons sp18_ok .nil)))))))
theorem law6 (p : Tx) (hp : short p = true) : RetX Γ 6 [.s p] [] (.b true) [] :=
  ret_goes (Γ := Γ) hP hZ W6_ok (by kernel_rfl) ⟨0, by
    rw [w6, hp]
    simp only [beqT, beqI, beq_self_eq_true, cond_true]⟩
theorem W4_ok : CallsOK Γ W4 := specs_ok (.cons sp8_ok (.cons sp13_ok (.cons sp9_ok (.cons sp14_ok .nil))))
theorem short_of {l : Tx} (h : l.length ≤ 1048576) : short l = true := by
  unfold short; exact decide_eq_true (by omega)
theorem short_q {s : Tx} (h : s.length ≤ 1048576) : short (quoteL s) = true := by
  have h1 := quote_len s
  have h2 := numS_le s
  unfold short; exact decide_eq_true (by omega)
theorem law4 (s t : Tx) (hs : s.length ≤ 1048576) (ht : t.length ≤ 1048576) : RetX Γ 4 [.s s, .s t] [] (.b true) [] :=
  ret_goes (Γ := Γ) hP hZ W4_ok (by kernel_rfl) ⟨0, by
    rw [w4, short_of hs, short_of ht, short_q hs]
    have hq := pcs_quote s
    by_cases hl : (quoteL s).length ≤ 200
    · have ho : okP (quoteL s) = true := by unfold okP; rw [decide_eq_true hl, hq]; rfl
      have he : erP (quoteL s) = 0 := by unfold erP; rw [ho]; rfl
      have hb : plnB (quoteL s) = true := by unfold plnB; rw [ho, hq]; simp [plnO_ex]
      have hS : plnS (quoteL s) = s := by unfold plnS; rw [ho, hq]; simp [plnO_ex]
      have hd : decide (((List.length (quoteL s) : Nat) : Int) > 200) = false := decide_eq_false (by omega)
      have hss : (s == s) = true := beq_self_eq_true s
      simp only [Bool.and_self, cond_true, hd, cond_false, he, beqI, ho, hq, mt_ex, Bool.true_and, hss, beqT, hb, hS]
    · have ho : okP (quoteL s) = false := by unfold okP; rw [decide_eq_false hl]; rfl
      have he : erP (quoteL s) = 2 := by unfold erP; rw [ho]; rfl
      have hd : decide (((List.length (quoteL s) : Nat) : Int) > 200) = true := decide_eq_true (by omega)
      simp only [Bool.and_self, cond_true, hd, he, beqI]⟩
theorem W7_ok : CallsOK Γ W7 := specs_ok (.cons sp8_ok (.cons sp9_ok (.cons sp15_ok .nil)))
theorem law7 (p s t : Tx) (hp : p.length ≤ 1048576) (hs : s.length ≤ 1048576) (ht : t.length ≤ 1048576) : RetX Γ 7 [.s p, .s s, .s t] [] (.b true) [] :=
  ret_goes (Γ := Γ) hP hZ W7_ok (by kernel_rfl) ⟨0, by
    rw [w7, short_of hp, short_of hs, Bool.and_self, cond_true, Bool.not_true, cond_false]
    cases ho : okP p with
    | false =>
      have he : erP p = 2 := by unfold erP; rw [ho]; rfl
      rw [he]; rfl
    | true =>
      have he : erP p = 0 := by unfold erP; rw [ho]; rfl
      rw [he, show ((0 : Int) != 0) = false from rfl, cond_false, Bool.true_and]
      cases hm : mt (pcs p).1 s with
      | false => rfl
      | true =>
        rw [Bool.not_true, cond_false]
        by_cases h200 : ((List.length p : Nat) : Int) ≥ 200
        · rw [decide_eq_true h200, cond_true]
        · rw [decide_eq_false h200, cond_false]
          by_cases hs1 : ((List.length s : Nat) : Int) > 1000
          · rw [decide_eq_true hs1, cond_true]
          · rw [decide_eq_false hs1, cond_false]
            by_cases ht1 : ((List.length t : Nat) : Int) > 1000
            · rw [decide_eq_true ht1, cond_true]
            · rw [decide_eq_false ht1, cond_false]
              have hpp := (okP_len ho).2
              have a1 : pcs (p ++ [42]) = ((pcs p).1 ++ [.many], true) := by rw [pcs_app _ p [42] (Nat.le_refl _) hpp]; rfl
              have a2 : pcs ([42] ++ p) = (.many :: (pcs p).1, true) := by
                show pcs (42 :: p) = _
                rw [pcs_cons (by decide), hpp]; rfl
              have o1 : okP (p ++ [42]) = true := by unfold okP; rw [a1, decide_eq_true (by simp; omega)]; rfl
              have o2 : okP ([42] ++ p) = true := by unfold okP; rw [a2, decide_eq_true (by simp; omega)]; rfl
              have e1 : erP (p ++ [42]) = 0 := by unfold erP; rw [o1]; rfl
              have e2 : erP ([42] ++ p) = 0 := by unfold erP; rw [o2]; rfl
              have m1 : mt ((pcs p).1 ++ [.many]) (s ++ t) = true := mt_app.2 ⟨s, t, rfl, hm, many_iff.2 ⟨t, [], by simp, rfl⟩⟩
              have m2 : mt (.many :: (pcs p).1) (t ++ s) = true := many_iff.2 ⟨t, s, rfl, hm⟩
              have hlst : decide (lstP p ≤ ((List.length s : Nat) : Int)) = true := by
                unfold lstP
                rw [ho, cond_true]
                have := lst_le hm
                exact decide_eq_true (by omega)
              have s1 : short (p ++ [42]) = true := short_of (by simp; omega)
              have s2 : short ([42] ++ p) = true := short_of (by simp; omega)
              have s3 : short (s ++ t) = true := short_of (by simp; omega)
              have s4 : short (t ++ s) = true := short_of (by simp; omega)
              have d1 : decide (List.length p + List.length ([42] : Tx) ≤ maxStr) = true := decide_eq_true (by unfold maxStr; simp; omega)
              have d2 : decide (List.length s + List.length t ≤ maxStr) = true := decide_eq_true (by unfold maxStr; omega)
              have d3 : decide (List.length ([42] : Tx) + List.length p ≤ maxStr) = true := decide_eq_true (by unfold maxStr; simp; omega)
              have d4 : decide (List.length t + List.length s ≤ maxStr) = true := decide_eq_true (by unfold maxStr; omega)
              rw [d1, cond_true, d2, cond_true, s1, s3, Bool.and_self, cond_true, d3, cond_true, d4, cond_true, s2, s4, Bool.and_self, cond_true, cond_true, e1, e2, o1, a1, o2, a2, m1, m2, hlst]
              rfl⟩
theorem W5_ok : CallsOK Γ W5 := specs_ok (.cons sp8_ok (.cons sp9_ok (.cons sp11_ok .nil)))
/-- parts that match their own, up to somewhere -/
def someB (l1 l2 : List Pc) (s : Tx) : Nat → Bool
  | 0 => false
  | n + 1 => someB l1 l2 s n || (mt l1 (s.take n) && mt l2 (s.drop n))
theorem someB_iff {l1 l2 : List Pc} {s : Tx} : ∀ {n : Nat}, someB l1 l2 s n = true ↔ ∃ i, i < n ∧ mt l1 (s.take i) = true ∧ mt l2 (s.drop i) = true
  | 0 => by simp [someB]
  | n + 1 => by
    simp only [someB, Bool.or_eq_true, Bool.and_eq_true, someB_iff (n := n)]
    constructor
    · rintro (⟨i, hi, h⟩ | h)
      · exact ⟨i, by omega, h⟩
      · exact ⟨n, by omega, h⟩
    · rintro ⟨i, hi, h⟩
      by_cases hn : i = n
      · subst hn; exact .inr h
      · exact .inl ⟨i, by omega, h⟩
theorem someB_all (l1 l2 : List Pc) (s : Tx) : someB l1 l2 s (s.length + 1) = mt (l1 ++ l2) s := by
  rw [Bool.eq_iff_iff, someB_iff, mt_app]
  constructor
  · rintro ⟨i, _, h1, h2⟩
    exact ⟨s.take i, s.drop i, (List.take_append_drop i s).symm, h1, h2⟩
  · rintro ⟨a, b, rfl, h1, h2⟩
    exact ⟨a.length, by simp; omega, by simpa using h1, by simpa using h2⟩
theorem g5 (p q s : Tx) (hp : okP p = true) (hq : okP q = true) (hs : s.length ≤ 60) (b4 : Bool) (h4 : b4 = mt ((pcs p).1 ++ (pcs q).1) s) : ∀ (m i : Nat), i + m = s.length + 1 →
    Goes Γ W5 5 6 ⟨[(0, .s p), (1, .s q), (2, .s s), (7, .b b4), (8, .i .i64 0), (9, .b (someB (pcs p).1 (pcs q).1 s i)), (10, .i .i64 (i : Int))], []⟩ (.b true, [])
  | 0, i, h => by
    refine Goes.er (er_of (fun q => w5_6a _ _ _ _ _ _ _ _) (er_f (decide_eq_false (by omega)) (er_t rfl (er_t rfl (er_is ?_)))))
    rw [show i = s.length + 1 by omega, someB_all, h4, beqT]
  | m + 1, i, h => by
    have ih := g5 p q s hp hq hs b4 h4 m (i + 1) (by omega)
    have ep : erP p = 0 := by unfold erP; rw [hp]; rfl
    have eq : erP q = 0 := by unfold erP; rw [hq]; rfl
    have w1 : IntKind.wrap .i64 ((i : Int) + 1) = ((i + 1 : Nat) : Int) := by rw [wrapI (by omega) (by omega)]; omega
    have t1 : List.take ((Int.toNat (i : Int)) - 0) (List.drop 0 s) = s.take i := by rw [Int.toNat_natCast]; rfl
    have t2 : List.take ((List.length s) - (Int.toNat (i : Int))) (List.drop (Int.toNat (i : Int)) s) = s.drop i := by
      rw [Int.toNat_natCast]
      exact List.take_of_length_le (by simp)
    have hi : (decide ((0 : Int) ≤ (i : Int)) && decide ((i : Int) ≤ ((List.length s : Nat) : Int))) = true := by rw [decide_eq_true (by omega), decide_eq_true (by omega)]; rfl
    have s1 : short p = true := short_of (by have := (okP_len hp).1; omega)
    have s2 : short q = true := short_of (by have := (okP_len hq).1; omega)
    have s3 : short (s.take i) = true := short_of (by simp; omega)
    have s4 : short (s.drop i) = true := short_of (by simp; omega)
    refine Goes.er (er_of (fun q => w5_6a _ _ _ _ _ _ _ _) (er_t (decide_eq_true (by omega)) (er_t hi ?_)))
    rw [t1, t2, s1, s2, s3, s4, ep, eq, w1, hp, hq]
    refine er_t rfl (er_t hi (er_t rfl (er_f rfl (er_f rfl ?_))))
    simp only [someB] at ih
    refine er_if (fun h1 => er_lab ?_) fun h1 => er_if (fun h2 => er_lab ?_) fun h2 => er_lab ?_
    · rw [h1] at ih; exact ih
    · have h2 : mt (pcs p).1 (s.take i) = true := by simpa using h2
      rw [h1, h2] at ih; exact ih
    · have h2 : mt (pcs p).1 (s.take i) = false := by simpa using h2
      rw [h1, h2] at ih; exact ih
theorem law5 (p q s : Tx) (hp : p.length ≤ 1048576) (hq : q.length ≤ 1048576) (hs : s.length ≤ 1048576) : RetX Γ 5 [.s p, .s q, .s s] [] (.b true) [] := by
  have : EXR (.b true, []) fun k => evF Γ W5 (L Γ W5 5 k) 5 [.s p, .s q, .s s] [] := by
    refine er_of (fun k => w5 _ _ _ _) (er_if (fun _ => er_is rfl) fun h60 => er_t (short_of hp) ?_)
    have h60 := of_decide_eq_false h60
    cases hop : okP p with
    | false => exact er_t rfl (er_is rfl)
    | true =>
      refine er_f rfl (er_t (short_of hq) ?_)
      cases hoq : okP q with
      | false => exact er_t rfl (er_is rfl)
      | true =>
        refine er_f rfl ?_
        have l1 := (okP_len hop).1
        have l2 := (okP_len hoq).1
        rw [wrapI (by omega) (by omega)]
        refine er_if (fun _ => er_is rfl) fun h200 => ?_
        have h200 := of_decide_eq_false h200
        have a1 : pcs (p ++ q) = ((pcs p).1 ++ (pcs q).1, true) := by rw [pcs_app _ p q (Nat.le_refl _) (okP_len hop).2, (okP_len hoq).2]
        have o1 : okP (p ++ q) = true := by unfold okP; rw [a1, decide_eq_true (by simp; omega)]; rfl
        have e1 : erP (p ++ q) = 0 := by unfold erP; rw [o1]; rfl
        refine er_t (decide_eq_true (by unfold maxStr; omega)) (er_t (by rw [short_of (by simp; omega), short_of hs]; rfl) (er_lab ?_))
        rw [e1, o1, a1, Bool.true_and]
        exact g5 p q s hop hoq (by omega) _ rfl (s.length + 1) 0 (by omega)
  obtain ⟨k, hk⟩ := this
  exact ret_goes (Γ := Γ) hP hZ W5_ok (by kernel_rfl) ⟨k, hk⟩
end Go.Proofs.Ytbdekjlnnbjicaa.V
