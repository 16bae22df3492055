/- ShA, ShB, ShC, ShD, ShE, ShF, ShQ, ShG, ShH, ShI, ShJ, ShK, ShL: texts of this claim, put together in build order by program. -/
import Derived.Test.YtafmogdnhpnbiaaDoorBj
import Derived.Test.YtafmogdnhpnbiaaDoorProg
/- The program of the law's seat, as the machine over values takes it. Definitions and closed facts of the program. -/
namespace Go.Proofs.YtafmogdnhpnbiaaDoor.V
open Go
set_option maxRecDepth 100000
set_option linter.unusedVariables false
def live : List (FuncId × Nat × List Nat) := [(6, 6, [0, 1, 5, 6]), (7, 5, [0, 4, 5]), (10, 4, [0, 1, 5]), (15, 5, [0, 2, 3, 4, 5, 6]), (15, 12, [0, 2, 4, 5, 7]), (15, 16, [2, 4, 5, 7, 8, 9]), (15, 20, [2, 4, 5, 7, 10]), (15, 25, [2, 4, 11, 12]), (19, 4, [1, 2, 3, 4, 8, 9]), (23, 2, [0, 3]), (24, 3, [2, 3, 7, 8, 9]), (26, 2, [0, 3]), (28, 3, [0, 3, 4]), (28, 7, [0, 3, 4, 5, 6]), (29, 3, [0, 1, 5, 6]), (30, 3, [0, 1, 2, 7, 8]), (30, 7, [0, 1, 7, 9]), (30, 14, [0, 1, 7, 12, 13]), (30, 24, [0, 12, 20]), (35, 3, [0, 4]), (36, 5, [0, 2, 3, 4]), (36, 10, [2, 3, 4, 7]), (36, 14, [2, 3, 65, 66]), (37, 10, [1, 8, 9, 10, 11, 12]), (39, 3, [1, 3, 4]), (42, 4, [2, 4, 5, 6, 17, 18]), (42, 13, [2, 4, 6, 91]), (43, 7, [0, 1, 6, 27, 28]), (44, 3, [0, 1, 5, 6]), (44, 7, [0, 1, 5, 6, 7, 8]), (45, 3, [0, 2, 3, 8]), (45, 9, [2, 3, 7]), (47, 5, [4, 15, 16, 17])]
def own : List (FuncId × Nat) := [(28, 7), (30, 244), (36, 78), (22, 17), (13, 13), (13, 16), (11, 9), (12, 6), (12, 7), (12, 8), (12, 9), (12, 10), (12, 11), (12, 42), (12, 43), (12, 50), (12, 51), (5, 98)]
def roots : List (FuncId × Nat) := [(32, 1), (33, 1), (40, 1), (35, 1), (36, 1)]
def pre : List (FuncId × Nat × List Nat) := [(35, 5, [4]), (36, 12, [4]), (27, 1, [2, 3]), (31, 1, [2, 3]), (32, 6, [5, 10]), (32, 7, [10, 5]), (33, 2, [6]), (33, 6, [6]), (33, 11, [14, 15, 13]), (33, 13, [13, 16, 17]), (5, 7, [13]), (5, 8, [15, 13]), (5, 14, [16])]
def outs : List FuncId := [11, 13, 21, 22]
def frzs : List FuncId := [35]
def lks : List (FuncId × Nat) := [(27, 1), (31, 1), (32, 6), (32, 7), (33, 2), (33, 6), (33, 11), (33, 13)]
def globs : Nat → Option (TypeId × D)
  | 0 => some (82, .agg (facs.map fun n => D.int .u32 n))
  | _ => none
noncomputable def Γ : Ctx := { P := Tryd.prog, live := live, G := globs, own := own, roots := roots, pre := pre, outs := outs, frzs := frzs, lks := lks }
theorem hP : tabOk Γ.P = true := by kernel_rfl
theorem hZ : zeroOk Γ.P = true := by kernel_rfl
theorem hN : (Γ.P.funcs.toList.all fun fn => !(fn.name == "runtime.NumGoroutine")) = true := by kernel_rfl
end Go.Proofs.YtafmogdnhpnbiaaDoor.V

/- Digests: steps of rounds; what bytes and words are as data; the contracts' shapes. -/
namespace Go.Proofs.YtafmogdnhpnbiaaDoor.V
open Go
set_option maxRecDepth 100000
set_option linter.unusedVariables false
set_option linter.unusedSimpArgs false
/-! ### some number of rounds comes to this -/
section
variable {r : AV × Objs} {Γ : Ctx} {H : Handle} {f : FuncId} {key : Nat} {st : St}
def EXR (r : AV × Objs) (R : Nat → Option (AV × Objs)) : Prop := ∃ n, R n = some r
theorem Goes.er (h : EXR r fun n => evL Γ H (L Γ H f n) f key st) : Goes Γ H f key st r := Goes.step h
theorem er_of {R R' : Nat → Option (AV × Objs)} (h : ∀ n, R n = R' n) (h' : EXR r R') : EXR r R := by
  obtain ⟨n, h1⟩ := h'
  exact ⟨n, (h n).trans h1⟩
theorem er_lab (h : Goes Γ H f key st r) : EXR r fun n => L Γ H f n (todoAt Γ f key) st := h
theorem er_some : EXR r fun _ => some r := ⟨0, rfl⟩
theorem er_is {r' : AV × Objs} (h : r' = r) : EXR r fun _ => some r' := ⟨0, by rw [h]⟩
theorem er_t {c : Bool} {X Y : Nat → Option (AV × Objs)} (hc : c = true) (h : EXR r X) : EXR r fun n => bif c then X n else Y n := by subst hc; exact h
theorem er_f {c : Bool} {X Y : Nat → Option (AV × Objs)} (hc : c = false) (h : EXR r Y) : EXR r fun n => bif c then X n else Y n := by subst hc; exact h
theorem er_if {c : Bool} {X Y : Nat → Option (AV × Objs)} (h1 : c = true → EXR r X) (h2 : c = false → EXR r Y) : EXR r fun n => bif c then X n else Y n := by
  cases c with
  | true => exact h1 rfl
  | false => exact h2 rfl
theorem er_idx {α : Type} {l : List α} {i : Int} {y : α} {K : Nat → α → Option (AV × Objs)} (h0 : 0 ≤ i) (h : l[i.toNat]? = some y) (h' : EXR r fun n => K n y) : EXR r fun n => idx l i (K n) := by
  obtain ⟨n, h1⟩ := h'
  refine ⟨n, ?_⟩
  show idx l i (K n) = _
  unfold idx lGet
  rw [decide_eq_true h0, cond_true, h]
  exact h1
theorem er_get {α : Type} {l : List α} {i : Nat} {y : α} {K : Nat → α → Option (AV × Objs)} (h : l[i]? = some y) (h' : EXR r fun n => K n y) : EXR r fun n => lGet l i (K n) := by
  obtain ⟨n, h1⟩ := h'
  refine ⟨n, ?_⟩
  show lGet l i (K n) = _
  unfold lGet
  rw [h]
  exact h1
theorem er_agg {ys : List D} {K : Nat → List D → Option (AV × Objs)} (h : EXR r fun n => K n ys) : EXR r fun n => dAgg (.agg ys) (K n) := h
theorem er_lc {α : Type} {x : α} {q : List α} {K : Nat → α → List α → Option (AV × Objs)} (h : EXR r fun n => K n x q) : EXR r fun n => lCons (x :: q) (K n) := h
theorem er_ln {α : Type} {K : Nat → Option (AV × Objs)} (h : EXR r fun n => K n) : EXR r fun n => lNil ([] : List α) (K n) := h
theorem er_i {x : Int} {K : Nat → Int → Option (AV × Objs)} (h : EXR r fun n => K n x) : EXR r fun n => dInt .i64 (.int .i64 x) (K n) := h
theorem er_u {x : Int} {K : Nat → Int → Option (AV × Objs)} (h : EXR r fun n => K n x) : EXR r fun n => dInt .u64 (.int .u64 x) (K n) := h
theorem er_s {x : List UInt8} {K : Nat → List UInt8 → Option (AV × Objs)} (h : EXR r fun n => K n x) : EXR r fun n => dStr (.str x) (K n) := h
theorem er_b {x : Bool} {K : Nat → Bool → Option (AV × Objs)} (h : EXR r fun n => K n x) : EXR r fun n => dBool (.bool x) (K n) := h
theorem er_sl {c : Cp} {x : List D} {K : Nat → Cp → List D → Option (AV × Objs)} (h : EXR r fun n => K n c x) : EXR r fun n => dSlice (.slice c x) (K n) := h
theorem er_w {x : Int} {K : Nat → Int → Option (AV × Objs)} (h : EXR r fun n => K n x) : EXR r fun n => dInt .u32 (.int .u32 x) (K n) := h
theorem er_c {x : Int} {K : Nat → Int → Option (AV × Objs)} (h : EXR r fun n => K n x) : EXR r fun n => dInt .u8 (.int .u8 x) (K n) := h
theorem er_onnil {α : Type} {l : List α} {X Y : Nat → Option (AV × Objs)} (h1 : l = [] → EXR r X) (h2 : l ≠ [] → EXR r Y) : EXR r fun n => onNil l (X n) (Y n) := by
  cases l with
  | nil => exact h1 rfl
  | cons a b => exact h2 (by simp)
end
section
variable {Γ : Ctx} {g : FuncId}
theorem RetX.anyc {e : TypeId} {c : Cp} {l : List D} {r : List AV} {obs obs' : Objs} {v : AV} (h : RetX Γ g (.sl e .any l :: r) obs v obs') : RetX Γ g (.sl e c l :: r) obs v obs' := by
  intro w S σ X vals hX hM ha
  refine h w S σ X vals hX hM ?_
  simp only [RepAs, RepA] at ha ⊢
  obtain ⟨x, y, rfl, ⟨a, cap, rfl, hc, h2⟩, h3⟩ := ha
  exact ⟨_, _, rfl, ⟨a, cap, rfl, hc.any, h2⟩, h3⟩
theorem RetX.to {args : List AV} {obs obs' : Objs} {r r' : AV} (h : RetX Γ g args obs r obs') (hr : ∀ w S σ v, RepA Γ.P w S σ obs' r v → RepA Γ.P w S σ obs' r' v) : RetX Γ g args obs r' obs' := by
  intro w S σ X vals hX hM ha
  refine (h w S σ X vals hX hM ha).mono ?_
  rintro v w' ⟨S', σ', hM2, hk, h2⟩
  exact ⟨S', σ', hM2, hk, hr _ _ _ _ h2⟩
end
theorem none_ok : CallsOK Γ (runS []) := specs_ok .nil
theorem wrapI {n : Int} (h0 : -9223372036854775808 ≤ n) (h1 : n ≤ 9223372036854775807) : IntKind.i64.wrap n = n := by
  rw [IntKind.wrap_i64]; omega
theorem wrapU {n : Int} (h0 : 0 ≤ n) (h1 : n < 18446744073709551616) : IntKind.u64.wrap n = n := by
  rw [IntKind.wrap_u64]; omega
theorem get_mid {α : Type} (pre : List α) (y : α) (r : List α) : (pre ++ y :: r)[pre.length]? = some y := by simp
theorem room1 {n : Nat} (h : n ≤ 10000000000000) : roomB n 1 = true := by
  unfold roomB
  simp only [Bool.and_eq_true, decide_eq_true_eq]
  exact ⟨rfl, by omega⟩
/-! ### bytes, words -/
def isB8 : D → Bool
  | .int .u8 n => decide (0 ≤ n) && decide (n < 256)
  | _ => false
def isBy (l : List D) : Bool := l.all isB8
def unB8 : D → UInt8
  | .int _ n => UInt8.ofNat n.toNat
  | _ => 0
def unB (l : List D) : Tx := l.map unB8
theorem unB_len (l : List D) : (unB l).length = l.length := by unfold unB; simp
theorem isB8_eq {d : D} (h : isB8 d = true) : d = .int .u8 ((unB8 d).toNat : Int) := by
  unfold isB8 at h
  split at h
  · rename_i m
    simp only [Bool.and_eq_true, decide_eq_true_eq] at h
    show D.int .u8 m = D.int .u8 ((UInt8.ofNat m.toNat).toNat : Int)
    congr 1
    rw [UInt8.toNat_ofNat']
    omega
  · cases h
theorem isBy_eq : ∀ {l : List D}, isBy l = true → l = bytesD (unB l)
  | [], _ => rfl
  | d :: r, h => by
    have h : isB8 d = true ∧ isBy r = true := by simpa [isBy] using h
    show d :: r = D.int .u8 ((unB8 d).toNat : Int) :: bytesD (unB r)
    rw [← isBy_eq h.2, ← isB8_eq h.1]
theorem isBy_bytesD : ∀ (t : Tx), isBy (bytesD t) = true
  | [] => rfl
  | c :: r => by
    have := isBy_bytesD r
    have hc := c.toNat_lt
    have h1 : isB8 (.int .u8 (c.toNat : Int)) = true := by
      show (decide ((0 : Int) ≤ (c.toNat : Int)) && decide ((c.toNat : Int) < 256)) = true
      rw [decide_eq_true (by omega), decide_eq_true (by omega)]; rfl
    show (isB8 (.int .u8 (c.toNat : Int)) && isBy (bytesD r)) = true
    rw [h1, this]; rfl
theorem unB_bytesD : ∀ (t : Tx), unB (bytesD t) = t
  | [] => rfl
  | c :: r => by
    show UInt8.ofNat ((c.toNat : Int)).toNat :: unB (bytesD r) = c :: r
    rw [unB_bytesD r, Int.toNat_natCast, UInt8.ofNat_toNat]
theorem bytesD_len (t : Tx) : (bytesD t).length = t.length := by unfold bytesD; simp
theorem bytesD_app (s t : Tx) : bytesD (s ++ t) = bytesD s ++ bytesD t := by unfold bytesD; simp
theorem bytesD_take (n : Nat) (t : Tx) : (bytesD t).take n = bytesD (t.take n) := by unfold bytesD; simp
theorem bytesD_drop (n : Nat) (t : Tx) : (bytesD t).drop n = bytesD (t.drop n) := by unfold bytesD; simp
def wOf : List D → W8
  | [.int _ a, .int _ b, .int _ c, .int _ d, .int _ e, .int _ f, .int _ g, .int _ h] => ⟨a, b, c, d, e, f, g, h⟩
  | _ => ⟨0, 0, 0, 0, 0, 0, 0, 0⟩
def isW : List D → Bool
  | [.int .u32 a, .int .u32 b, .int .u32 c, .int .u32 d, .int .u32 e, .int .u32 f, .int .u32 g, .int .u32 h] => (⟨a, b, c, d, e, f, g, h⟩ : W8).ok
  | _ => false
theorem isW_eq {l : List D} (h : isW l = true) : l = (wOf l).l ∧ (wOf l).ok = true := by
  unfold isW at h
  split at h
  · exact ⟨rfl, h⟩
  · cases h
theorem isW_l {v : W8} (h : v.ok = true) : isW v.l = true := h
theorem wOf_l (v : W8) : wOf v.l = v := rfl
/-! ### the contracts' shapes -/
def spTurn : List AV → Option (Bool × AV)
  | [.i .u32 w, .i .i64 n] => some (true, .i .u32 (turnU w n))
  | _ => none
def spSpread : List AV → Option (Bool × AV)
  | [.i .u32 w, .i .i64 a, .i .i64 b, .i .i64 c] => some (true, .i .u32 (spreadU w a b c))
  | _ => none
def b4 (l : List D) : Bool := isBy l && decide (l.length = 4)
def b64 (l : List D) : Bool := isBy l && decide (l.length = 64)
def spGet : List AV → Option (Bool × AV)
  | [.sl 5 _ l] => some (b4 l, .tuple [.i .u64 (get4 (unB l)), .i .i64 0])
  | _ => none
def putC (n k : Int) : Bool := (k == 4 && inR n) || k == 8
def spPut : List AV → Option (Bool × AV)
  | [.i .u64 n, .i .i64 k] => some (putC n k, .tuple [.sl 5 .any (bytesD (putB n k.toNat)), .i .i64 0])
  | _ => none
def schedD (l : List D) : List D := (schedW (unB l)).map (D.int .u32)
def spSched : List AV → Option (Bool × AV)
  | [.sl 5 _ l] => some (b64 l, .d 82 (.agg (schedD l)))
  | _ => none
def mixD (x l : List D) : List D := (mixW (wOf x) (unB l)).l
def spMix : List AV → Option (Bool × AV)
  | [.d 73 (.agg x), .sl 5 _ l] => some (isW x && b64 l, .d 73 (.agg (mixD x l)))
  | _ => none
def hB (ws : List D) (c : Cp) (rs : List D) (n : Int) : Option Obj := some (.box 76 (.d 76 (D.agg [D.agg ws, D.slice c rs, D.int .i64 n])))
def xNew : List AV → Objs → Option (Bool × AV × Objs)
  | [], [] => some (true, .ptr 0 [] 76, [some (.box 76 (.d 76 (D.agg [D.agg begW.l, D.slice .nl [], D.int .i64 0])))])
  | _, _ => none
def wrC (ws rs : List D) (n : Int) (b : List D) : Bool := isW ws && (isBy rs && (isBy b && (decide (rs.length < 64) && (decide (0 ≤ n) && (decide (n ≤ 1099511627776) && decide (b.length ≤ 1099511627776))))))
def wrW (ws rs b : List D) : List D := (eatT (wOf ws) (unB rs ++ unB b)).1.l
def wrR (ws rs b : List D) : List D := bytesD (eatT (wOf ws) (unB rs ++ unB b)).2
def xWr : List AV → Objs → Option (Bool × AV × Objs)
  | [.ptr 0 [] 76, .sl 5 _ b], [some (.box 76 (.d 76 (.agg [.agg ws, .slice c rs, .int .i64 n])))] => some (wrC ws rs n b, .tuple [], [some (.box 76 (.d 76 (.agg [.agg (wrW ws rs b), .slice .any (wrR ws rs b), .int .i64 (n + (b.length : Int))])))])
  | _, _ => none
def smC (ws rs : List D) (n : Int) : Bool := isW ws && (isBy rs && (decide (rs.length < 64) && (decide (0 ≤ n) && decide (n ≤ 1099511627776))))
def smD (ws rs : List D) (n : Int) : List D := bytesD (outW (eatT (wOf ws) (unB rs ++ padT n.toNat)).1)
def xSm : List AV → Objs → Option (Bool × AV × Objs)
  | [.ptr 0 [] 76], [some (.box 76 (.d 76 (.agg [.agg ws, .slice c rs, .int .i64 n])))] => some (smC ws rs n && decide (n % 64 = (rs.length : Int)), .d 35 (.agg (smD ws rs n)), [some (.box 76 (.d 76 (.agg [.agg ws, .slice c rs, .int .i64 n])))])
  | _, _ => none
def isBs : D → Bool
  | .slice _ x => isBy x
  | _ => false
def unBs : D → Tx
  | .slice _ x => unB x
  | _ => []
def catB (l : List D) : Tx := l.flatMap unBs
def bsC (l : List D) : Bool := l.all isBs && decide ((catB l).length + l.length ≤ 1073741824)
def shaL (l : List D) : List D := bytesD (shaT (catB l))
def spSha : List AV → Option (Bool × AV)
  | [.snil] => some (true, .d 35 (.agg (bytesD (shaT []))))
  | [.sl 39 _ l] => some (bsC l, .d 35 (.agg (shaL l)))
  | _ => none
end Go.Proofs.YtafmogdnhpnbiaaDoor.V

/- Digests: what the machine over values makes of the functions 48, 46, 47, 43, 45, 41, 42, 34, 35, 36, 24: equations, written by program. -/
namespace Go.Proofs.YtafmogdnhpnbiaaDoor.V
open Go
set_option maxRecDepth 100000
set_option linter.unusedVariables false
set_option linter.unusedSimpArgs false
theorem w48 (lab : Lab) (w : Int) (n : Int) : evF Γ (runS []) lab 48 [.i .u32 w, .i .i64 n] [] =
  bif decide ((0:Int) ≤ (IntKind.wrap .u64 ((BitVec.ofInt 64 (IntKind.wrap .u64 n) &&& BitVec.ofInt 64 31).toNat : Int))) then (bif decide ((0:Int) ≤ (IntKind.wrap .u64 (32 - (IntKind.wrap .u64 ((BitVec.ofInt 64 (IntKind.wrap .u64 n) &&& BitVec.ofInt 64 31).toNat : Int))))) then (some (.i .u32 (orU (shlV .u32 w (IntKind.wrap .u64 ((BitVec.ofInt 64 (IntKind.wrap .u64 n) &&& BitVec.ofInt 64 31).toNat : Int))) (shrV .u32 w (IntKind.wrap .u64 (32 - (IntKind.wrap .u64 ((BitVec.ofInt 64 (IntKind.wrap .u64 n) &&& BitVec.ofInt 64 31).toNat : Int)))))), [])) else none) else none := by kernel_rfl
def W46 : Handle := runS [⟨48, dat spTurn⟩]
theorem w46 (lab : Lab) (w : Int) (a : Int) (b : Int) (c : Int) : evF Γ W46 lab 46 [.i .u32 w, .i .i64 a, .i .i64 b, .i .i64 c] [] =
  bif decide ((0:Int) ≤ (IntKind.wrap .u64 (bif decide ((IntKind.wrap .i64 (0 - c) : Int) < 0) then 0 else (IntKind.wrap .i64 (0 - c))))) then (bif decide (c ≥ 0) then (some (.i .u32 (xorU (xorU (turnU w (IntKind.wrap .i64 (0 - a))) (turnU w (IntKind.wrap .i64 (0 - b)))) (turnU w (IntKind.wrap .i64 (0 - c)))), [])) else (some (.i .u32 (xorU (xorU (turnU w (IntKind.wrap .i64 (0 - a))) (turnU w (IntKind.wrap .i64 (0 - b)))) (shrV .u32 w (IntKind.wrap .u64 (bif decide ((IntKind.wrap .i64 (0 - c) : Int) < 0) then 0 else (IntKind.wrap .i64 (0 - c)))))), []))) else none := by kernel_rfl
theorem w47 (lab : Lab) (l : List D) : evF Γ (runS []) lab 47 [.sl 5 .any l] [] =
  bif decide (((l.length : Int)) < 1) then (some (.tuple [.i .u64 0, .i .i64 1], [])) else (bif decide (((l.length : Int)) > 8) then (some (.tuple [.i .u64 0, .i .i64 1], [])) else (lab (todoAt Γ 47 5) ⟨[(4, .i .u64 0), (15, .sl 5 .any l), (16, .i .i64 ((l.length : Int))), (17, .i .i64 0)], []⟩)) := by kernel_rfl
theorem w47_5a (lab : Lab) (n1 : Int) (l2 : List D) (n3 : Int) (n4 : Int) : evL Γ (runS []) lab 47 5 ⟨[(4, .i .u64 n1), (15, .sl 5 .any l2), (16, .i .i64 n3), (17, .i .i64 n4)], []⟩ =
  bif decide (n4 < n3) then (idx l2 n4 fun y5 => dInt .u8 y5 fun n6 => lab (todoAt Γ 47 5) ⟨[(4, .i .u64 (IntKind.wrap .u64 ((BitVec.ofInt 64 (shlV .u64 n1 8) ||| BitVec.ofInt 64 (IntKind.wrap .u64 n6)).toNat : Int))), (15, .sl 5 .any l2), (16, .i .i64 n3), (17, .i .i64 (IntKind.wrap .i64 (n4 + 1)))], []⟩) else (some (.tuple [.i .u64 n1, .i .i64 0], [])) := by kernel_rfl
theorem w43 (lab : Lab) (n : Int) (k : Int) : evF Γ (runS []) lab 43 [.i .u64 n, .i .i64 k] [] =
  bif decide (k < 1) then (some (.tuple [.snil, .i .i64 1], [])) else (bif decide (k > 8) then (some (.tuple [.snil, .i .i64 1], [])) else (bif decide (k < 8) then (bif decide ((0:Int) ≤ (IntKind.wrap .u64 (8 * (IntKind.wrap .u64 k)))) then (bif (shrV .u64 n (IntKind.wrap .u64 (8 * (IntKind.wrap .u64 k)))) != 0 then (some (.tuple [.snil, .i .i64 4], [])) else (bif decide ((0:Int) ≤ k) && decide (k ≤ k) && roomB (Int.toNat k) 1 then (lab (todoAt Γ 43 7) ⟨[(0, .i .u64 n), (1, .i .i64 k), (6, .ref 5 0), (27, .i .i64 (((List.replicate (Int.toNat k) (D.int .u8 0)).length : Int))), (28, .i .i64 0)], [some (.arr 5 (List.replicate (Int.toNat k) (D.int .u8 0)) false)]⟩) else none)) else none) else (bif decide ((0:Int) ≤ k) && decide (k ≤ k) && roomB (Int.toNat k) 1 then (lab (todoAt Γ 43 7) ⟨[(0, .i .u64 n), (1, .i .i64 k), (6, .ref 5 0), (27, .i .i64 (((List.replicate (Int.toNat k) (D.int .u8 0)).length : Int))), (28, .i .i64 0)], [some (.arr 5 (List.replicate (Int.toNat k) (D.int .u8 0)) false)]⟩) else none))) := by kernel_rfl
theorem w43_7a (lab : Lab) (n1 : Int) (n2 : Int) (n3 : Int) (n4 : Int) (l5 : List D) : evL Γ (runS []) lab 43 7 ⟨[(0, .i .u64 n1), (1, .i .i64 n2), (6, .ref 5 0), (27, .i .i64 n3), (28, .i .i64 n4)], [some (.arr 5 l5 false)]⟩ =
  bif decide (n4 < n3) then (bif decide ((0:Int) ≤ (IntKind.wrap .u64 (8 * (IntKind.wrap .u64 (IntKind.wrap .i64 ((IntKind.wrap .i64 (n2 - 1)) - n4)))))) then (bif decide ((0:Int) ≤ n4) && decide (n4 < (l5.length : Int)) then (lGet l5 (Int.toNat n4) fun y6 => lab (todoAt Γ 43 7) ⟨[(0, .i .u64 n1), (1, .i .i64 n2), (6, .ref 5 0), (27, .i .i64 n3), (28, .i .i64 (IntKind.wrap .i64 (n4 + 1)))], [some (.arr 5 (List.set l5 (Int.toNat n4) (D.int .u8 (IntKind.wrap .u8 (shrV .u64 n1 (IntKind.wrap .u64 (8 * (IntKind.wrap .u64 (IntKind.wrap .i64 ((IntKind.wrap .i64 (n2 - 1)) - n4))))))))) false)]⟩) else none) else none) else (some (.tuple [.sl 5 .any l5, .i .i64 0], [])) := by kernel_rfl
def W45 : Handle := runS [⟨46, dat spSpread⟩, ⟨47, dat spGet⟩]
theorem w45 (lab : Lab) (l : List D) : evF Γ W45 lab 45 [.sl 5 .any l] [] =
  lab (todoAt Γ 45 3) ⟨[(0, .sl 5 .any l), (2, .ptr 0 [] 82), (3, .ptr 1 [] 82), (8, .i .i64 0)], [some (.box 82 (.d 82 (D.agg [D.int .u32 0, D.int .u32 0, D.int .u32 0, D.int .u32 0, D.int .u32 0, D.int .u32 0, D.int .u32 0, D.int .u32 0, D.int .u32 0, D.int .u32 0, D.int .u32 0, D.int .u32 0, D.int .u32 0, D.int .u32 0, D.int .u32 0, D.int .u32 0, D.int .u32 0, D.int .u32 0, D.int .u32 0, D.int .u32 0, D.int .u32 0, D.int .u32 0, D.int .u32 0, D.int .u32 0, D.int .u32 0, D.int .u32 0, D.int .u32 0, D.int .u32 0, D.int .u32 0, D.int .u32 0, D.int .u32 0, D.int .u32 0, D.int .u32 0, D.int .u32 0, D.int .u32 0, D.int .u32 0, D.int .u32 0, D.int .u32 0, D.int .u32 0, D.int .u32 0, D.int .u32 0, D.int .u32 0, D.int .u32 0, D.int .u32 0, D.int .u32 0, D.int .u32 0, D.int .u32 0, D.int .u32 0, D.int .u32 0, D.int .u32 0, D.int .u32 0, D.int .u32 0, D.int .u32 0, D.int .u32 0, D.int .u32 0, D.int .u32 0, D.int .u32 0, D.int .u32 0, D.int .u32 0, D.int .u32 0, D.int .u32 0, D.int .u32 0, D.int .u32 0, D.int .u32 0]))), some (.box 82 (.d 82 (D.agg [D.int .u32 0, D.int .u32 0, D.int .u32 0, D.int .u32 0, D.int .u32 0, D.int .u32 0, D.int .u32 0, D.int .u32 0, D.int .u32 0, D.int .u32 0, D.int .u32 0, D.int .u32 0, D.int .u32 0, D.int .u32 0, D.int .u32 0, D.int .u32 0, D.int .u32 0, D.int .u32 0, D.int .u32 0, D.int .u32 0, D.int .u32 0, D.int .u32 0, D.int .u32 0, D.int .u32 0, D.int .u32 0, D.int .u32 0, D.int .u32 0, D.int .u32 0, D.int .u32 0, D.int .u32 0, D.int .u32 0, D.int .u32 0, D.int .u32 0, D.int .u32 0, D.int .u32 0, D.int .u32 0, D.int .u32 0, D.int .u32 0, D.int .u32 0, D.int .u32 0, D.int .u32 0, D.int .u32 0, D.int .u32 0, D.int .u32 0, D.int .u32 0, D.int .u32 0, D.int .u32 0, D.int .u32 0, D.int .u32 0, D.int .u32 0, D.int .u32 0, D.int .u32 0, D.int .u32 0, D.int .u32 0, D.int .u32 0, D.int .u32 0, D.int .u32 0, D.int .u32 0, D.int .u32 0, D.int .u32 0, D.int .u32 0, D.int .u32 0, D.int .u32 0, D.int .u32 0])))]⟩ := by kernel_rfl
theorem w45_3a (lab : Lab) (l1 : List D) (n2 : Int) (y3 : List D) (y4 : List D) : evL Γ W45 lab 45 3 ⟨[(0, .sl 5 .any l1), (2, .ptr 0 [] 82), (3, .ptr 1 [] 82), (8, .i .i64 n2)], [some (.box 82 (.d 82 (D.agg y3))), some (.box 82 (.d 82 (D.agg y4)))]⟩ =
  bif decide (n2 < 16) then (bif decide ((0:Int) ≤ (IntKind.wrap .i64 ((IntKind.wrap .i64 (4 * n2)) + 4))) && decide ((IntKind.wrap .i64 ((IntKind.wrap .i64 (4 * n2)) + 4)) ≤ (l1.length : Int)) then (bif decide ((0:Int) ≤ (IntKind.wrap .i64 (4 * n2))) && decide ((IntKind.wrap .i64 (4 * n2)) ≤ (Int.toNat (IntKind.wrap .i64 ((IntKind.wrap .i64 (4 * n2)) + 4)) : Int)) then (bif b4 (List.take ((Int.toNat (IntKind.wrap .i64 ((IntKind.wrap .i64 (4 * n2)) + 4))) - (Int.toNat (IntKind.wrap .i64 (4 * n2)))) (List.drop (Int.toNat (IntKind.wrap .i64 (4 * n2))) l1)) then (bif decide ((0:Int) ≤ n2) && decide (n2 < (64 : Int)) then (lab (todoAt Γ 45 3) ⟨[(0, .sl 5 .any l1), (2, .ptr 0 [] 82), (3, .ptr 1 [] 82), (8, .i .i64 (IntKind.wrap .i64 (n2 + 1)))], [some (.box 82 (.d 82 (D.agg y3))), some (.box 82 (.d 82 (D.agg (List.set y4 (Int.toNat n2) (D.int .u32 (IntKind.wrap .u32 (get4 (unB (List.take ((Int.toNat (IntKind.wrap .i64 ((IntKind.wrap .i64 (4 * n2)) + 4))) - (Int.toNat (IntKind.wrap .i64 (4 * n2)))) (List.drop (Int.toNat (IntKind.wrap .i64 (4 * n2))) l1))))))))))]⟩) else none) else none) else none) else none) else (lab (todoAt Γ 45 9) ⟨[(2, .ptr 0 [] 82), (3, .ptr 1 [] 82), (7, .i .i64 16)], [some (.box 82 (.d 82 (D.agg y3))), some (.box 82 (.d 82 (D.agg y4)))]⟩) := by kernel_rfl
theorem w45_9a (lab : Lab) (n1 : Int) (y2 : List D) (y3 : List D) : evL Γ W45 lab 45 9 ⟨[(2, .ptr 0 [] 82), (3, .ptr 1 [] 82), (7, .i .i64 n1)], [some (.box 82 (.d 82 (D.agg y2))), some (.box 82 (.d 82 (D.agg y3)))]⟩ =
  bif decide (n1 < 64) then (bif decide ((0:Int) ≤ (IntKind.wrap .i64 (n1 - 2))) && decide ((IntKind.wrap .i64 (n1 - 2)) < (64 : Int)) then (lGet y3 (Int.toNat (IntKind.wrap .i64 (n1 - 2))) fun y4 => dInt .u32 y4 fun n5 => bif decide ((0:Int) ≤ (IntKind.wrap .i64 (n1 - 7))) && decide ((IntKind.wrap .i64 (n1 - 7)) < (64 : Int)) then (lGet y3 (Int.toNat (IntKind.wrap .i64 (n1 - 7))) fun y6 => dInt .u32 y6 fun n7 => bif decide ((0:Int) ≤ (IntKind.wrap .i64 (n1 - 15))) && decide ((IntKind.wrap .i64 (n1 - 15)) < (64 : Int)) then (lGet y3 (Int.toNat (IntKind.wrap .i64 (n1 - 15))) fun y8 => dInt .u32 y8 fun n9 => bif decide ((0:Int) ≤ (IntKind.wrap .i64 (n1 - 16))) && decide ((IntKind.wrap .i64 (n1 - 16)) < (64 : Int)) then (lGet y3 (Int.toNat (IntKind.wrap .i64 (n1 - 16))) fun y10 => dInt .u32 y10 fun n11 => bif decide ((0:Int) ≤ n1) && decide (n1 < (64 : Int)) then (lab (todoAt Γ 45 9) ⟨[(2, .ptr 0 [] 82), (3, .ptr 1 [] 82), (7, .i .i64 (IntKind.wrap .i64 (n1 + 1)))], [some (.box 82 (.d 82 (D.agg y2))), some (.box 82 (.d 82 (D.agg (List.set y3 (Int.toNat n1) (D.int .u32 (addU (addU (addU (spreadU n5 17 19 ((-10))) n7) (spreadU n9 7 18 ((-3)))) n11))))))]⟩) else none) else none) else none) else none) else none) else (some (.d 82 (D.agg y3), [])) := by kernel_rfl
theorem w41 (lab : Lab) : evF Γ (runS []) lab 41 [] [] =
  some (.d 73 (D.agg [D.int .u32 1779033703, D.int .u32 3144134277, D.int .u32 1013904242, D.int .u32 2773480762, D.int .u32 1359893119, D.int .u32 2600822924, D.int .u32 528734635, D.int .u32 1541459225]), []) := by kernel_rfl
def W42 : Handle := runS [⟨45, dat spSched⟩, ⟨46, dat spSpread⟩]
theorem w42 (lab : Lab) (s0 : Int) (s1 : Int) (s2 : Int) (s3 : Int) (s4 : Int) (s5 : Int) (s6 : Int) (s7 : Int) (l : List D) : evF Γ W42 lab 42 [.d 73 (D.agg [D.int .u32 s0, D.int .u32 s1, D.int .u32 s2, D.int .u32 s3, D.int .u32 s4, D.int .u32 s5, D.int .u32 s6, D.int .u32 s7]), .sl 5 .any l] [] =
  bif b64 l then (lab (todoAt Γ 42 4) ⟨[(2, .ptr 0 [] 73), (4, .ptr 1 [] 73), (5, .ptr 2 [] 82), (6, .ptr 3 [] 73), (17, .d 82 (D.agg ((facs.map fun n => D.int .u32 n)))), (18, .i .i64 0)], [some (.box 73 (.d 73 (D.agg [D.int .u32 s0, D.int .u32 s1, D.int .u32 s2, D.int .u32 s3, D.int .u32 s4, D.int .u32 s5, D.int .u32 s6, D.int .u32 s7]))), some (.box 73 (.d 73 (D.agg [D.int .u32 0, D.int .u32 0, D.int .u32 0, D.int .u32 0, D.int .u32 0, D.int .u32 0, D.int .u32 0, D.int .u32 0]))), some (.box 82 (.d 82 (D.agg ((schedD l))))), some (.box 73 (.d 73 (D.agg [D.int .u32 s0, D.int .u32 s1, D.int .u32 s2, D.int .u32 s3, D.int .u32 s4, D.int .u32 s5, D.int .u32 s6, D.int .u32 s7])))]⟩) else none := by kernel_rfl
theorem w42_4a (lab : Lab) (y1 : List D) (n2 : Int) (n3 : Int) (n4 : Int) (n5 : Int) (n6 : Int) (n7 : Int) (n8 : Int) (n9 : Int) (n10 : Int) (n11 : Int) (n12 : Int) (n13 : Int) (n14 : Int) (n15 : Int) (n16 : Int) (n17 : Int) (n18 : Int) (y19 : List D) (n20 : Int) (n21 : Int) (n22 : Int) (n23 : Int) (n24 : Int) (n25 : Int) (n26 : Int) (n27 : Int) : evL Γ W42 lab 42 4 ⟨[(2, .ptr 0 [] 73), (4, .ptr 1 [] 73), (5, .ptr 2 [] 82), (6, .ptr 3 [] 73), (17, .d 82 (D.agg y1)), (18, .i .i64 n2)], [some (.box 73 (.d 73 (D.agg [D.int .u32 n3, D.int .u32 n4, D.int .u32 n5, D.int .u32 n6, D.int .u32 n7, D.int .u32 n8, D.int .u32 n9, D.int .u32 n10]))), some (.box 73 (.d 73 (D.agg [D.int .u32 n11, D.int .u32 n12, D.int .u32 n13, D.int .u32 n14, D.int .u32 n15, D.int .u32 n16, D.int .u32 n17, D.int .u32 n18]))), some (.box 82 (.d 82 (D.agg y19))), some (.box 73 (.d 73 (D.agg [D.int .u32 n20, D.int .u32 n21, D.int .u32 n22, D.int .u32 n23, D.int .u32 n24, D.int .u32 n25, D.int .u32 n26, D.int .u32 n27])))]⟩ =
  bif decide (n2 < 64) then (idx y1 n2 fun y28 => dInt .u32 y28 fun n29 => bif decide ((0:Int) ≤ n2) && decide (n2 < (64 : Int)) then (lGet y19 (Int.toNat n2) fun y30 => dInt .u32 y30 fun n31 => lab (todoAt Γ 42 4) ⟨[(2, .ptr 0 [] 73), (4, .ptr 1 [] 73), (5, .ptr 2 [] 82), (6, .ptr 3 [] 73), (17, .d 82 (D.agg y1)), (18, .i .i64 (IntKind.wrap .i64 (n2 + 1)))], [some (.box 73 (.d 73 (D.agg [D.int .u32 n3, D.int .u32 n4, D.int .u32 n5, D.int .u32 n6, D.int .u32 n7, D.int .u32 n8, D.int .u32 n9, D.int .u32 n10]))), some (.box 73 (.d 73 (D.agg [D.int .u32 n11, D.int .u32 n12, D.int .u32 n13, D.int .u32 n14, D.int .u32 n15, D.int .u32 n16, D.int .u32 n17, D.int .u32 n18]))), some (.box 82 (.d 82 (D.agg y19))), some (.box 73 (.d 73 (D.agg [D.int .u32 (addU (addU (addU (addU (addU n27 (spreadU n24 6 11 25)) (xorU (andU n24 n25) (andU (xorU 4294967295 n24) n26))) n29) n31) (addU (spreadU n20 2 13 22) (xorU (xorU (andU n20 n21) (andU n20 n22)) (andU n21 n22)))), D.int .u32 n20, D.int .u32 n21, D.int .u32 n22, D.int .u32 (addU n23 (addU (addU (addU (addU n27 (spreadU n24 6 11 25)) (xorU (andU n24 n25) (andU (xorU 4294967295 n24) n26))) n29) n31)), D.int .u32 n24, D.int .u32 n25, D.int .u32 n26])))]⟩) else none) else (lab (todoAt Γ 42 13) ⟨[(2, .ptr 0 [] 73), (4, .ptr 1 [] 73), (6, .ptr 2 [] 73), (91, .i .i64 0)], [some (.box 73 (.d 73 (D.agg [D.int .u32 n3, D.int .u32 n4, D.int .u32 n5, D.int .u32 n6, D.int .u32 n7, D.int .u32 n8, D.int .u32 n9, D.int .u32 n10]))), some (.box 73 (.d 73 (D.agg [D.int .u32 n11, D.int .u32 n12, D.int .u32 n13, D.int .u32 n14, D.int .u32 n15, D.int .u32 n16, D.int .u32 n17, D.int .u32 n18]))), some (.box 73 (.d 73 (D.agg [D.int .u32 n20, D.int .u32 n21, D.int .u32 n22, D.int .u32 n23, D.int .u32 n24, D.int .u32 n25, D.int .u32 n26, D.int .u32 n27])))]⟩) := by kernel_rfl
theorem w42_13a (lab : Lab) (n1 : Int) (n2 : Int) (n3 : Int) (n4 : Int) (n5 : Int) (n6 : Int) (n7 : Int) (n8 : Int) (n9 : Int) (n10 : Int) (n11 : Int) (n12 : Int) (n13 : Int) (n14 : Int) (n15 : Int) (n16 : Int) (n17 : Int) (n18 : Int) (n19 : Int) (n20 : Int) (n21 : Int) (n22 : Int) (n23 : Int) (n24 : Int) (n25 : Int) : evL Γ W42 lab 42 13 ⟨[(2, .ptr 0 [] 73), (4, .ptr 1 [] 73), (6, .ptr 2 [] 73), (91, .i .i64 n1)], [some (.box 73 (.d 73 (D.agg [D.int .u32 n2, D.int .u32 n3, D.int .u32 n4, D.int .u32 n5, D.int .u32 n6, D.int .u32 n7, D.int .u32 n8, D.int .u32 n9]))), some (.box 73 (.d 73 (D.agg [D.int .u32 n10, D.int .u32 n11, D.int .u32 n12, D.int .u32 n13, D.int .u32 n14, D.int .u32 n15, D.int .u32 n16, D.int .u32 n17]))), some (.box 73 (.d 73 (D.agg [D.int .u32 n18, D.int .u32 n19, D.int .u32 n20, D.int .u32 n21, D.int .u32 n22, D.int .u32 n23, D.int .u32 n24, D.int .u32 n25])))]⟩ =
  bif decide (n1 < 8) then (bif decide ((0:Int) ≤ n1) && decide (n1 < (8 : Int)) then (lGet [D.int .u32 n2, D.int .u32 n3, D.int .u32 n4, D.int .u32 n5, D.int .u32 n6, D.int .u32 n7, D.int .u32 n8, D.int .u32 n9] (Int.toNat n1) fun y26 => dInt .u32 y26 fun n27 => bif decide ((0:Int) ≤ n1) && decide (n1 < (8 : Int)) then (lGet [D.int .u32 n18, D.int .u32 n19, D.int .u32 n20, D.int .u32 n21, D.int .u32 n22, D.int .u32 n23, D.int .u32 n24, D.int .u32 n25] (Int.toNat n1) fun y28 => dInt .u32 y28 fun n29 => bif decide ((0:Int) ≤ n1) && decide (n1 < (8 : Int)) then (lab (todoAt Γ 42 13) ⟨[(2, .ptr 0 [] 73), (4, .ptr 1 [] 73), (6, .ptr 2 [] 73), (91, .i .i64 (IntKind.wrap .i64 (n1 + 1)))], [some (.box 73 (.d 73 (D.agg (List.set [D.int .u32 n2, D.int .u32 n3, D.int .u32 n4, D.int .u32 n5, D.int .u32 n6, D.int .u32 n7, D.int .u32 n8, D.int .u32 n9] (Int.toNat n1) (D.int .u32 (addU n27 n29)))))), some (.box 73 (.d 73 (D.agg [D.int .u32 n10, D.int .u32 n11, D.int .u32 n12, D.int .u32 n13, D.int .u32 n14, D.int .u32 n15, D.int .u32 n16, D.int .u32 n17]))), some (.box 73 (.d 73 (D.agg [D.int .u32 n18, D.int .u32 n19, D.int .u32 n20, D.int .u32 n21, D.int .u32 n22, D.int .u32 n23, D.int .u32 n24, D.int .u32 n25])))]⟩) else none) else none) else none) else (some (.d 73 (D.agg [D.int .u32 n2, D.int .u32 n3, D.int .u32 n4, D.int .u32 n5, D.int .u32 n6, D.int .u32 n7, D.int .u32 n8, D.int .u32 n9]), [])) := by kernel_rfl
theorem w42_13b (lab : Lab) (n1 : Int) (y2 : List D) (n3 : Int) (n4 : Int) (n5 : Int) (n6 : Int) (n7 : Int) (n8 : Int) (n9 : Int) (n10 : Int) (n11 : Int) (n12 : Int) (n13 : Int) (n14 : Int) (n15 : Int) (n16 : Int) (n17 : Int) (n18 : Int) : evL Γ W42 lab 42 13 ⟨[(2, .ptr 0 [] 73), (4, .ptr 1 [] 73), (6, .ptr 2 [] 73), (91, .i .i64 n1)], [some (.box 73 (.d 73 (D.agg y2))), some (.box 73 (.d 73 (D.agg [D.int .u32 n3, D.int .u32 n4, D.int .u32 n5, D.int .u32 n6, D.int .u32 n7, D.int .u32 n8, D.int .u32 n9, D.int .u32 n10]))), some (.box 73 (.d 73 (D.agg [D.int .u32 n11, D.int .u32 n12, D.int .u32 n13, D.int .u32 n14, D.int .u32 n15, D.int .u32 n16, D.int .u32 n17, D.int .u32 n18])))]⟩ =
  bif decide (n1 < 8) then (bif decide ((0:Int) ≤ n1) && decide (n1 < (8 : Int)) then (lGet y2 (Int.toNat n1) fun y19 => dInt .u32 y19 fun n20 => bif decide ((0:Int) ≤ n1) && decide (n1 < (8 : Int)) then (lGet [D.int .u32 n11, D.int .u32 n12, D.int .u32 n13, D.int .u32 n14, D.int .u32 n15, D.int .u32 n16, D.int .u32 n17, D.int .u32 n18] (Int.toNat n1) fun y21 => dInt .u32 y21 fun n22 => bif decide ((0:Int) ≤ n1) && decide (n1 < (8 : Int)) then (lab (todoAt Γ 42 13) ⟨[(2, .ptr 0 [] 73), (4, .ptr 1 [] 73), (6, .ptr 2 [] 73), (91, .i .i64 (IntKind.wrap .i64 (n1 + 1)))], [some (.box 73 (.d 73 (D.agg (List.set y2 (Int.toNat n1) (D.int .u32 (addU n20 n22)))))), some (.box 73 (.d 73 (D.agg [D.int .u32 n3, D.int .u32 n4, D.int .u32 n5, D.int .u32 n6, D.int .u32 n7, D.int .u32 n8, D.int .u32 n9, D.int .u32 n10]))), some (.box 73 (.d 73 (D.agg [D.int .u32 n11, D.int .u32 n12, D.int .u32 n13, D.int .u32 n14, D.int .u32 n15, D.int .u32 n16, D.int .u32 n17, D.int .u32 n18])))]⟩) else none) else none) else none) else (some (.d 73 (D.agg y2), [])) := by kernel_rfl
def W34 : Handle := runS [⟨41, dat (sp0 true (.d 73 (.agg begW.l)))⟩]
theorem w34 (lab : Lab) : evF Γ W34 lab 34 [] [] =
  some (.ptr 0 [] 76, [some (.box 76 (.d 76 (D.agg [D.agg (begW.l), D.slice .nl [], D.int .i64 0])))]) := by kernel_rfl
def W35 : Handle := runS [⟨42, dat spMix⟩]
theorem w35 (lab : Lab) (b : List D) (ws : List D) (c : Cp) (rs : List D) (n : Int) : evF Γ W35 lab 35 [.ptr 0 [] 76, .sl 5 .any b] [some (.box 76 (.d 76 (D.agg [D.agg ws, D.slice c rs, D.int .i64 n])))] =
  bif decide ((0:Int) ≤ ((rs.length : Int))) && decide (((rs.length : Int)) ≤ (rs.length : Int)) then (bif decide ((0:Int) ≤ ((rs.length : Int))) && decide (((rs.length : Int)) ≤ (Int.toNat ((rs.length : Int)) : Int)) then (bif Nat.beq (Int.toNat ((rs.length : Int))) (Int.toNat ((rs.length : Int))) then (onNil b (lab (todoAt Γ 35 3) ⟨[(0, .ptr 0 [] 76), (4, .sl 5 .cl (List.take ((Int.toNat ((rs.length : Int))) - 0) (List.drop 0 rs)))], [some (.box 76 (.d 76 (D.agg [D.agg ws, D.slice c rs, D.int .i64 (IntKind.wrap .i64 (n + ((b.length : Int))))])))]⟩) (bif roomB ((List.take ((Int.toNat ((rs.length : Int))) - 0) (List.drop 0 rs)).length + b.length) 1 then (lab (todoAt Γ 35 3) ⟨[(0, .ptr 0 [] 76), (4, .ref 5 1)], [some (.box 76 (.d 76 (D.agg [D.agg ws, D.slice c rs, D.int .i64 (IntKind.wrap .i64 (n + ((b.length : Int))))]))), some (.arr 5 ((List.take ((Int.toNat ((rs.length : Int))) - 0) (List.drop 0 rs)) ++ b) false)]⟩) else none)) else none) else none) else none := by kernel_rfl
theorem w35_3a (lab : Lab) (l1 : List D) (y2 : List D) (c3 : Cp) (l4 : List D) (n5 : Int) : evL Γ W35 lab 35 3 ⟨[(0, .ptr 0 [] 76), (4, .sl 5 .cl l1)], [some (.box 76 (.d 76 (D.agg [D.agg y2, D.slice c3 l4, D.int .i64 n5])))]⟩ =
  bif decide (((l1.length : Int)) ≥ 64) then (bif decide ((0:Int) ≤ 64) && decide (64 ≤ (l1.length : Int)) then (bif isW y2 && b64 (List.take (64) (List.drop 0 l1)) then (bif decide ((0:Int) ≤ 64) && decide (64 ≤ (l1.length : Int)) then (lab (todoAt Γ 35 3) ⟨[(0, .ptr 0 [] 76), (4, .sl 5 .any (List.take ((l1.length) - 64) (List.drop 64 l1)))], [some (.box 76 (.d 76 (D.agg [D.agg ((mixD y2 (List.take (64) (List.drop 0 l1)))), D.slice c3 l4, D.int .i64 n5])))]⟩) else none) else none) else none) else (onNil l1 (some (.tuple [], [some (.box 76 (.d 76 (D.agg [D.agg y2, D.slice .any [], D.int .i64 n5])))])) (bif roomB (l1.length) 1 then (some (.tuple [], [some (.box 76 (.d 76 (D.agg [D.agg y2, D.slice .any l1, D.int .i64 n5])))])) else none)) := by kernel_rfl
theorem w35_3b (lab : Lab) (y1 : List D) (c2 : Cp) (l3 : List D) (n4 : Int) (l5 : List D) : evL Γ W35 lab 35 3 ⟨[(0, .ptr 0 [] 76), (4, .ref 5 1)], [some (.box 76 (.d 76 (D.agg [D.agg y1, D.slice c2 l3, D.int .i64 n4]))), some (.arr 5 l5 false)]⟩ =
  bif decide (((l5.length : Int)) ≥ 64) then (bif decide ((0:Int) ≤ 64) && decide (64 ≤ (l5.length : Int)) then (bif isW y1 && b64 (List.take (64) (List.drop 0 l5)) then (bif decide ((0:Int) ≤ 64) && decide (64 ≤ (l5.length : Int)) then (lab (todoAt Γ 35 3) ⟨[(0, .ptr 0 [] 76), (4, .sl 5 .any (List.take ((l5.length) - 64) (List.drop 64 l5)))], [some (.box 76 (.d 76 (D.agg [D.agg ((mixD y1 (List.take (64) (List.drop 0 l5)))), D.slice c2 l3, D.int .i64 n4])))]⟩) else none) else none) else none) else (onNil l5 (some (.tuple [], [some (.box 76 (.d 76 (D.agg [D.agg y1, D.slice .any [], D.int .i64 n4])))])) (bif roomB (l5.length) 1 then (some (.tuple [], [some (.box 76 (.d 76 (D.agg [D.agg y1, D.slice .any l5, D.int .i64 n4])))])) else none)) := by kernel_rfl
theorem w35_3c (lab : Lab) (l1 : List D) (y2 : List D) (c3 : Cp) (l4 : List D) (n5 : Int) : evL Γ W35 lab 35 3 ⟨[(0, .ptr 0 [] 76), (4, .sl 5 .any l1)], [some (.box 76 (.d 76 (D.agg [D.agg y2, D.slice c3 l4, D.int .i64 n5])))]⟩ =
  bif decide (((l1.length : Int)) ≥ 64) then (bif decide ((0:Int) ≤ 64) && decide (64 ≤ (l1.length : Int)) then (bif isW y2 && b64 (List.take (64) (List.drop 0 l1)) then (bif decide ((0:Int) ≤ 64) && decide (64 ≤ (l1.length : Int)) then (lab (todoAt Γ 35 3) ⟨[(0, .ptr 0 [] 76), (4, .sl 5 .any (List.take ((l1.length) - 64) (List.drop 64 l1)))], [some (.box 76 (.d 76 (D.agg [D.agg ((mixD y2 (List.take (64) (List.drop 0 l1)))), D.slice c3 l4, D.int .i64 n5])))]⟩) else none) else none) else none) else (onNil l1 (some (.tuple [], [some (.box 76 (.d 76 (D.agg [D.agg y2, D.slice .any [], D.int .i64 n5])))])) (bif roomB (l1.length) 1 then (some (.tuple [], [some (.box 76 (.d 76 (D.agg [D.agg y2, D.slice .any l1, D.int .i64 n5])))])) else none)) := by kernel_rfl
def W36 : Handle := runS [⟨42, dat spMix⟩, ⟨43, dat spPut⟩]
theorem w36 (lab : Lab) (ws : List D) (c : Cp) (rs : List D) (n : Int) : evF Γ W36 lab 36 [.ptr 0 [] 76] [some (.box 76 (.d 76 (D.agg [D.agg ws, D.slice c rs, D.int .i64 n])))] =
  bif decide ((0:Int) ≤ ((rs.length : Int))) && decide (((rs.length : Int)) ≤ (rs.length : Int)) then (bif decide ((0:Int) ≤ ((rs.length : Int))) && decide (((rs.length : Int)) ≤ (Int.toNat ((rs.length : Int)) : Int)) then (bif Nat.beq (Int.toNat ((rs.length : Int))) (Int.toNat ((rs.length : Int))) then (bif roomB ((List.take ((Int.toNat ((rs.length : Int))) - 0) (List.drop 0 rs)).length + 1) 1 then (lab (todoAt Γ 36 5) ⟨[(0, .ptr 0 [] 76), (2, .ptr 1 [] 35), (3, .ptr 2 [] 35), (4, .ref 5 3)], [some (.box 76 (.d 76 (D.agg [D.agg ws, D.slice c rs, D.int .i64 n]))), some (.box 35 (.d 35 (D.agg [D.int .u8 0, D.int .u8 0, D.int .u8 0, D.int .u8 0, D.int .u8 0, D.int .u8 0, D.int .u8 0, D.int .u8 0, D.int .u8 0, D.int .u8 0, D.int .u8 0, D.int .u8 0, D.int .u8 0, D.int .u8 0, D.int .u8 0, D.int .u8 0, D.int .u8 0, D.int .u8 0, D.int .u8 0, D.int .u8 0, D.int .u8 0, D.int .u8 0, D.int .u8 0, D.int .u8 0, D.int .u8 0, D.int .u8 0, D.int .u8 0, D.int .u8 0, D.int .u8 0, D.int .u8 0, D.int .u8 0, D.int .u8 0]))), some (.box 35 (.d 35 (D.agg [D.int .u8 0, D.int .u8 0, D.int .u8 0, D.int .u8 0, D.int .u8 0, D.int .u8 0, D.int .u8 0, D.int .u8 0, D.int .u8 0, D.int .u8 0, D.int .u8 0, D.int .u8 0, D.int .u8 0, D.int .u8 0, D.int .u8 0, D.int .u8 0, D.int .u8 0, D.int .u8 0, D.int .u8 0, D.int .u8 0, D.int .u8 0, D.int .u8 0, D.int .u8 0, D.int .u8 0, D.int .u8 0, D.int .u8 0, D.int .u8 0, D.int .u8 0, D.int .u8 0, D.int .u8 0, D.int .u8 0, D.int .u8 0]))), some (.arr 5 ((List.take ((Int.toNat ((rs.length : Int))) - 0) (List.drop 0 rs)) ++ [D.int .u8 128]) false)]⟩) else none) else none) else none) else none := by kernel_rfl
theorem w36_5a (lab : Lab) (y1 : List D) (c2 : Cp) (l3 : List D) (n4 : Int) (y5 : List D) (y6 : List D) (l7 : List D) : evL Γ W36 lab 36 5 ⟨[(0, .ptr 0 [] 76), (2, .ptr 1 [] 35), (3, .ptr 2 [] 35), (4, .ref 5 3)], [some (.box 76 (.d 76 (D.agg [D.agg y1, D.slice c2 l3, D.int .i64 n4]))), some (.box 35 (.d 35 (D.agg y5))), some (.box 35 (.d 35 (D.agg y6))), some (.arr 5 l7 false)]⟩ =
  bif (Int.tmod ((l7.length : Int)) 64) != 56 then (bif roomB (l7.length + 1) 1 then (lab (todoAt Γ 36 5) ⟨[(0, .ptr 0 [] 76), (2, .ptr 1 [] 35), (3, .ptr 2 [] 35), (4, .ref 5 3)], [some (.box 76 (.d 76 (D.agg [D.agg y1, D.slice c2 l3, D.int .i64 n4]))), some (.box 35 (.d 35 (D.agg y5))), some (.box 35 (.d 35 (D.agg y6))), some (.arr 5 (l7 ++ [D.int .u8 0]) false)]⟩) else none) else (bif putC (shlV .u64 (IntKind.wrap .u64 n4) 3) 8 then (bif roomB (l7.length + ((bytesD (putB (shlV .u64 (IntKind.wrap .u64 n4) 3) (Int.toNat 8)))).length) 1 then (lab (todoAt Γ 36 10) ⟨[(2, .ptr 1 [] 35), (3, .ptr 2 [] 35), (4, .ref 5 3), (7, .ptr 4 [] 73)], [some (.box 76 (.d 76 (D.agg [D.agg y1, D.slice c2 l3, D.int .i64 n4]))), some (.box 35 (.d 35 (D.agg y5))), some (.box 35 (.d 35 (D.agg y6))), some (.arr 5 (l7 ++ ((bytesD (putB (shlV .u64 (IntKind.wrap .u64 n4) 3) (Int.toNat 8))))) false), some (.box 73 (.d 73 (D.agg y1)))]⟩) else none) else none) := by kernel_rfl
theorem w36_10a (lab : Lab) (y1 : List D) (c2 : Cp) (l3 : List D) (n4 : Int) (y5 : List D) (y6 : List D) (l7 : List D) (y8 : List D) : evL Γ W36 lab 36 10 ⟨[(2, .ptr 1 [] 35), (3, .ptr 2 [] 35), (4, .ref 5 3), (7, .ptr 4 [] 73)], [some (.box 76 (.d 76 (D.agg [D.agg y1, D.slice c2 l3, D.int .i64 n4]))), some (.box 35 (.d 35 (D.agg y5))), some (.box 35 (.d 35 (D.agg y6))), some (.arr 5 l7 false), some (.box 73 (.d 73 (D.agg y8)))]⟩ =
  bif decide (((l7.length : Int)) > 0) then (bif decide ((0:Int) ≤ 64) && decide (64 ≤ (l7.length : Int)) then (bif isW y8 && b64 (List.take (64) (List.drop 0 l7)) then (bif decide ((0:Int) ≤ 64) && decide (64 ≤ (l7.length : Int)) then (lab (todoAt Γ 36 10) ⟨[(2, .ptr 1 [] 35), (3, .ptr 2 [] 35), (4, .sl 5 .any (List.take ((l7.length) - 64) (List.drop 64 l7))), (7, .ptr 3 [] 73)], [some (.box 76 (.d 76 (D.agg [D.agg y1, D.slice c2 l3, D.int .i64 n4]))), some (.box 35 (.d 35 (D.agg y5))), some (.box 35 (.d 35 (D.agg y6))), some (.box 73 (.d 73 (D.agg ((mixD y8 (List.take (64) (List.drop 0 l7)))))))]⟩) else none) else none) else none) else (lab (todoAt Γ 36 14) ⟨[(2, .ptr 1 [] 35), (3, .ptr 2 [] 35), (65, .d 73 (D.agg y8)), (66, .i .i64 0)], [some (.box 76 (.d 76 (D.agg [D.agg y1, D.slice c2 l3, D.int .i64 n4]))), some (.box 35 (.d 35 (D.agg y5))), some (.box 35 (.d 35 (D.agg y6)))]⟩) := by kernel_rfl
theorem w36_10b (lab : Lab) (l1 : List D) (y2 : List D) (c3 : Cp) (l4 : List D) (n5 : Int) (y6 : List D) (y7 : List D) (y8 : List D) : evL Γ W36 lab 36 10 ⟨[(2, .ptr 1 [] 35), (3, .ptr 2 [] 35), (4, .sl 5 .any l1), (7, .ptr 3 [] 73)], [some (.box 76 (.d 76 (D.agg [D.agg y2, D.slice c3 l4, D.int .i64 n5]))), some (.box 35 (.d 35 (D.agg y6))), some (.box 35 (.d 35 (D.agg y7))), some (.box 73 (.d 73 (D.agg y8)))]⟩ =
  bif decide (((l1.length : Int)) > 0) then (bif decide ((0:Int) ≤ 64) && decide (64 ≤ (l1.length : Int)) then (bif isW y8 && b64 (List.take (64) (List.drop 0 l1)) then (bif decide ((0:Int) ≤ 64) && decide (64 ≤ (l1.length : Int)) then (lab (todoAt Γ 36 10) ⟨[(2, .ptr 1 [] 35), (3, .ptr 2 [] 35), (4, .sl 5 .any (List.take ((l1.length) - 64) (List.drop 64 l1))), (7, .ptr 3 [] 73)], [some (.box 76 (.d 76 (D.agg [D.agg y2, D.slice c3 l4, D.int .i64 n5]))), some (.box 35 (.d 35 (D.agg y6))), some (.box 35 (.d 35 (D.agg y7))), some (.box 73 (.d 73 (D.agg ((mixD y8 (List.take (64) (List.drop 0 l1)))))))]⟩) else none) else none) else none) else (lab (todoAt Γ 36 14) ⟨[(2, .ptr 1 [] 35), (3, .ptr 2 [] 35), (65, .d 73 (D.agg y8)), (66, .i .i64 0)], [some (.box 76 (.d 76 (D.agg [D.agg y2, D.slice c3 l4, D.int .i64 n5]))), some (.box 35 (.d 35 (D.agg y6))), some (.box 35 (.d 35 (D.agg y7)))]⟩) := by kernel_rfl
theorem w36_14a (lab : Lab) (y1 : List D) (n2 : Int) (y3 : List D) (c4 : Cp) (l5 : List D) (n6 : Int) (y7 : List D) (y8 : List D) : evL Γ W36 lab 36 14 ⟨[(2, .ptr 1 [] 35), (3, .ptr 2 [] 35), (65, .d 73 (D.agg y1)), (66, .i .i64 n2)], [some (.box 76 (.d 76 (D.agg [D.agg y3, D.slice c4 l5, D.int .i64 n6]))), some (.box 35 (.d 35 (D.agg y7))), some (.box 35 (.d 35 (D.agg y8)))]⟩ =
  bif decide (n2 < 8) then (idx y1 n2 fun y9 => dInt .u32 y9 fun n10 => bif putC (IntKind.wrap .u64 n10) 4 then (bif decide ((0:Int) ≤ (IntKind.wrap .i64 (4 * n2))) && decide ((IntKind.wrap .i64 (4 * n2)) ≤ (32 : Int)) then (lab (todoAt Γ 36 14) ⟨[(2, .ptr 1 [] 35), (3, .ptr 2 [] 35), (65, .d 73 (D.agg y1)), (66, .i .i64 (IntKind.wrap .i64 (n2 + 1)))], [some (.box 76 (.d 76 (D.agg [D.agg y3, D.slice c4 l5, D.int .i64 n6]))), some (.box 35 (.d 35 (D.agg y7))), some (.box 35 (.d 35 (D.agg (putL y8 (Int.toNat (IntKind.wrap .i64 (4 * n2))) (List.take (32 - (Int.toNat (IntKind.wrap .i64 (4 * n2)))) ((bytesD (putB (IntKind.wrap .u64 n10) (Int.toNat 4)))))))))]⟩) else none) else none) else (some (.d 35 (D.agg y8), [some (.box 76 (.d 76 (D.agg [D.agg y3, D.slice c4 l5, D.int .i64 n6])))])) := by kernel_rfl
def W24 : Handle := runS [⟨34, xNew⟩, ⟨35, xWr⟩, ⟨36, xSm⟩]
theorem w24 (lab : Lab) (l : List D) : evF Γ W24 lab 24 [.sl 39 .any l] [] =
  lab (todoAt Γ 24 3) ⟨[(2, .ptr 0 [] 35), (3, .ptr 1 [] 76), (7, .sl 39 .any l), (8, .i .i64 ((l.length : Int))), (9, .i .i64 0)], [some (.box 35 (.d 35 (D.agg [D.int .u8 0, D.int .u8 0, D.int .u8 0, D.int .u8 0, D.int .u8 0, D.int .u8 0, D.int .u8 0, D.int .u8 0, D.int .u8 0, D.int .u8 0, D.int .u8 0, D.int .u8 0, D.int .u8 0, D.int .u8 0, D.int .u8 0, D.int .u8 0, D.int .u8 0, D.int .u8 0, D.int .u8 0, D.int .u8 0, D.int .u8 0, D.int .u8 0, D.int .u8 0, D.int .u8 0, D.int .u8 0, D.int .u8 0, D.int .u8 0, D.int .u8 0, D.int .u8 0, D.int .u8 0, D.int .u8 0, D.int .u8 0]))), some (.box 76 (.d 76 (D.agg [D.agg (begW.l), D.slice .nl [], D.int .i64 0])))]⟩ := by kernel_rfl
theorem w24_3a (lab : Lab) (l1 : List D) (n2 : Int) (n3 : Int) (y4 : List D) (y5 : List D) (n6 : Int) : evL Γ W24 lab 24 3 ⟨[(2, .ptr 0 [] 35), (3, .ptr 1 [] 76), (7, .sl 39 .any l1), (8, .i .i64 n2), (9, .i .i64 n3)], [some (.box 35 (.d 35 (D.agg y4))), some (.box 76 (.d 76 (D.agg [D.agg y5, D.slice .nl [], D.int .i64 n6])))]⟩ =
  bif decide (n3 < n2) then (idx l1 n3 fun y7 => dSlice y7 fun c8 l9 => bif wrC y5 [] n6 l9 then (lab (todoAt Γ 24 3) ⟨[(2, .ptr 0 [] 35), (3, .ptr 1 [] 76), (7, .sl 39 .any l1), (8, .i .i64 n2), (9, .i .i64 (IntKind.wrap .i64 (n3 + 1)))], [some (.box 35 (.d 35 (D.agg y4))), some (.box 76 (.d 76 (D.agg [D.agg ((wrW y5 [] l9)), D.slice .any ((wrR y5 [] l9)), D.int .i64 (n6 + (l9.length : Int))])))]⟩) else none) else (bif smC y5 [] n6 && decide (n6 % 64 = (0 : Int)) then (some (.d 35 (D.agg ((smD y5 [] n6))), [])) else none) := by kernel_rfl
theorem w24_3b (lab : Lab) (l1 : List D) (n2 : Int) (n3 : Int) (y4 : List D) (y5 : List D) (l6 : List D) (n7 : Int) : evL Γ W24 lab 24 3 ⟨[(2, .ptr 0 [] 35), (3, .ptr 1 [] 76), (7, .sl 39 .any l1), (8, .i .i64 n2), (9, .i .i64 n3)], [some (.box 35 (.d 35 (D.agg y4))), some (.box 76 (.d 76 (D.agg [D.agg y5, D.slice .any l6, D.int .i64 n7])))]⟩ =
  bif decide (n3 < n2) then (idx l1 n3 fun y8 => dSlice y8 fun c9 l10 => bif wrC y5 l6 n7 l10 then (lab (todoAt Γ 24 3) ⟨[(2, .ptr 0 [] 35), (3, .ptr 1 [] 76), (7, .sl 39 .any l1), (8, .i .i64 n2), (9, .i .i64 (IntKind.wrap .i64 (n3 + 1)))], [some (.box 35 (.d 35 (D.agg y4))), some (.box 76 (.d 76 (D.agg [D.agg ((wrW y5 l6 l10)), D.slice .any ((wrR y5 l6 l10)), D.int .i64 (n7 + (l10.length : Int))])))]⟩) else none) else (bif smC y5 l6 n7 && decide (n7 % 64 = (l6.length : Int)) then (some (.d 35 (D.agg ((smD y5 l6 n7))), [])) else none) := by kernel_rfl
theorem n24 (lab : Lab) : evF Γ W24 lab 24 [.snil] [] =
  lab (todoAt Γ 24 3) ⟨[(2, .ptr 0 [] 35), (3, .ptr 1 [] 76), (7, .snil), (8, .i .i64 0), (9, .i .i64 0)], [some (.box 35 (.d 35 (D.agg [D.int .u8 0, D.int .u8 0, D.int .u8 0, D.int .u8 0, D.int .u8 0, D.int .u8 0, D.int .u8 0, D.int .u8 0, D.int .u8 0, D.int .u8 0, D.int .u8 0, D.int .u8 0, D.int .u8 0, D.int .u8 0, D.int .u8 0, D.int .u8 0, D.int .u8 0, D.int .u8 0, D.int .u8 0, D.int .u8 0, D.int .u8 0, D.int .u8 0, D.int .u8 0, D.int .u8 0, D.int .u8 0, D.int .u8 0, D.int .u8 0, D.int .u8 0, D.int .u8 0, D.int .u8 0, D.int .u8 0, D.int .u8 0]))), some (.box 76 (.d 76 (D.agg [D.agg (begW.l), D.slice .nl [], D.int .i64 0])))]⟩ := by kernel_rfl
theorem n24_3a (lab : Lab) (n1 : Int) (n2 : Int) (y3 : List D) (y4 : List D) (n5 : Int) : evL Γ W24 lab 24 3 ⟨[(2, .ptr 0 [] 35), (3, .ptr 1 [] 76), (7, .snil), (8, .i .i64 n1), (9, .i .i64 n2)], [some (.box 35 (.d 35 (D.agg y3))), some (.box 76 (.d 76 (D.agg [D.agg y4, D.slice .nl [], D.int .i64 n5])))]⟩ =
  bif decide (n2 < n1) then none else (bif smC y4 [] n5 && decide (n5 % 64 = (0 : Int)) then (some (.d 35 (D.agg ((smD y4 [] n5))), [])) else none) := by kernel_rfl
end Go.Proofs.YtafmogdnhpnbiaaDoor.V

/- Digests: contracts of the small functions: words turned, read, written; the words of a block. -/
namespace Go.Proofs.YtafmogdnhpnbiaaDoor.V
open Go
set_option maxRecDepth 100000
set_option linter.unusedVariables false
set_option linter.unusedSimpArgs false
theorem wu0 (n : Int) : 0 ≤ IntKind.wrap .u64 n := by rw [IntKind.wrap_u64]; omega
theorem spTurn_ok : SpecOK Γ ⟨48, dat spTurn⟩ := dat_ok fun args r hr => by
  unfold spTurn at hr
  split at hr
  · simp only [Option.some.injEq, Prod.mk.injEq] at hr
    obtain ⟨_, rfl⟩ := hr
    refine ret_goes (Γ := Γ) hP hZ none_ok (by kernel_rfl) ⟨0, ?_⟩
    rw [w48, decide_eq_true (wu0 _), decide_eq_true (wu0 _)]; rfl
  · cases hr
theorem W46_ok : CallsOK Γ W46 := specs_ok (.cons spTurn_ok .nil)
theorem spSpread_ok : SpecOK Γ ⟨46, dat spSpread⟩ := dat_ok fun args r hr => by
  unfold spSpread at hr
  split at hr
  · rename_i w a b c
    simp only [Option.some.injEq, Prod.mk.injEq] at hr
    obtain ⟨_, rfl⟩ := hr
    refine ret_goes (Γ := Γ) hP hZ W46_ok (by kernel_rfl) ⟨0, ?_⟩
    rw [w46, decide_eq_true (wu0 _)]
    unfold spreadU posU
    cases decide (c ≥ 0) <;> rfl
  · cases hr
/-! ### four bytes as a number -/
theorem g47 : ∀ (rest pre : Tx) (acc : Int), (pre ++ rest).length ≤ 8 →
    Goes Γ (runS []) 47 5 ⟨[(4, .i .u64 acc), (15, .sl 5 .any (bytesD (pre ++ rest))), (16, .i .i64 (((bytesD (pre ++ rest)).length : Int))), (17, .i .i64 (pre.length : Int))], []⟩ (.tuple [.i .u64 (rest.foldl (fun n b => IntKind.wrap .u64 ((BitVec.ofInt 64 (shlV .u64 n 8) ||| BitVec.ofInt 64 (IntKind.wrap .u64 (b.toNat : Int))).toNat : Int)) acc), .i .i64 0], [])
  | [], pre, acc, h => Goes.er (er_of (fun k => w47_5a _ _ _ _ _) (er_f (decide_eq_false (by rw [bytesD_len]; simp)) er_some))
  | c :: r, pre, acc, h => by
    have hl : (pre ++ c :: r).length = pre.length + (r.length + 1) := by simp
    refine Goes.er (er_of (fun k => w47_5a _ _ _ _ _) ?_)
    have w1 : IntKind.wrap .i64 ((pre.length : Int) + 1) = ((pre ++ [c]).length : Int) := by rw [List.length_append]; exact wrapI (by omega) (by simp at h; omega)
    have hg : (bytesD (pre ++ c :: r))[((pre.length : Nat) : Int).toNat]? = some (D.int .u8 (c.toNat : Int)) := by
      rw [Int.toNat_natCast]; unfold bytesD; simp
    refine er_t (decide_eq_true (by rw [bytesD_len, hl]; omega)) (er_idx (by omega) hg (er_c (er_lab ?_)))
    have ih := g47 r (pre ++ [c]) (IntKind.wrap .u64 ((BitVec.ofInt 64 (shlV .u64 acc 8) ||| BitVec.ofInt 64 (IntKind.wrap .u64 (c.toNat : Int))).toNat : Int)) (by rw [hl] at h; simp; omega)
    rw [List.append_assoc] at ih
    rw [w1]
    exact ih
theorem spGet_ok : SpecOK Γ ⟨47, dat spGet⟩ := dat_ok fun args r hr => by
  unfold spGet at hr
  split at hr
  · rename_i c l
    simp only [Option.some.injEq, Prod.mk.injEq] at hr
    obtain ⟨h1, rfl⟩ := hr
    unfold b4 at h1
    simp only [Bool.and_eq_true, decide_eq_true_eq] at h1
    have hl : (unB l).length = 4 := by rw [unB_len]; exact h1.2
    refine RetX.anyc ?_
    obtain ⟨q, hq⟩ := g47 (unB l) [] 0 (by simp; omega)
    rw [List.nil_append, ← isBy_eq h1.1] at hq
    refine ret_goes (Γ := Γ) hP hZ none_ok (by kernel_rfl) ⟨q, ?_⟩
    rw [w47, decide_eq_false (by omega), decide_eq_false (by omega), cond_false, cond_false]
    exact hq
  · cases hr
/-! ### a number as bytes -/
def elt (n : Int) (k i : Nat) : D := .int .u8 (IntKind.wrap .u8 (shrV .u64 n (8 * ((k : Int) - 1 - (i : Int)))))
theorem wu8 (n : Int) : 0 ≤ IntKind.wrap .u8 n ∧ IntKind.wrap .u8 n < 256 := by
  have : IntKind.u8.wrap n = n % 256 := by simp [IntKind.wrap, IntKind.bits, IntKind.signed]
  rw [this]; omega
theorem putB_elt (n : Int) (k : Nat) : bytesD (putB n k) = (List.range k).map (elt n k) := by
  unfold bytesD putB
  rw [List.map_map]
  refine List.map_congr_left fun i _ => ?_
  show D.int .u8 ((UInt8.ofNat (IntKind.wrap .u8 (shrV .u64 n (8 * ((k : Int) - 1 - (i : Int))))).toNat).toNat : Int) = elt n k i
  unfold elt
  congr 1
  have := wu8 (shrV .u64 n (8 * ((k : Int) - 1 - (i : Int))))
  rw [UInt8.toNat_ofNat']
  omega
theorem set_rep {α : Type} (A : List α) (m : Nat) (z v : α) : (A ++ List.replicate (m + 1) z).set A.length v = (A ++ [v]) ++ List.replicate m z := by
  simp [List.replicate_succ]
theorem get_rep {α : Type} (A : List α) (m : Nat) (z : α) : (A ++ List.replicate (m + 1) z)[A.length]? = some z := by
  simp [List.replicate_succ]
theorem g43 (n : Int) (k : Nat) (hk : k ≤ 8) : ∀ (m i : Nat), i + m = k →
    Goes Γ (runS []) 43 7 ⟨[(0, .i .u64 n), (1, .i .i64 (k : Int)), (6, .ref 5 0), (27, .i .i64 (k : Int)), (28, .i .i64 (i : Int))], [some (.arr 5 ((List.range i).map (elt n k) ++ List.replicate m (D.int .u8 0)) false)]⟩ (.tuple [.sl 5 .any (bytesD (putB n k)), .i .i64 0], [])
  | 0, i, h => by
    obtain rfl : i = k := by omega
    refine Goes.er (er_of (fun q => w43_7a _ _ _ _ _ _) (er_f (decide_eq_false (by omega)) (er_is ?_)))
    rw [putB_elt, List.replicate_zero, List.append_nil]
  | m + 1, i, h => by
    refine Goes.er (er_of (fun q => w43_7a _ _ _ _ _ _) ?_)
    have hl : ((List.range i).map (elt n k)).length = i := by simp
    have hs := set_rep ((List.range i).map (elt n k)) m (D.int .u8 0) (elt n k i)
    have hg := get_rep ((List.range i).map (elt n k)) m (D.int .u8 0)
    rw [hl] at hs hg
    have w1 : IntKind.wrap .i64 ((i : Int) + 1) = ((i + 1 : Nat) : Int) := by rw [wrapI (by omega) (by omega)]; omega
    have w2 : IntKind.wrap .u64 (8 * (IntKind.wrap .u64 (IntKind.wrap .i64 ((IntKind.wrap .i64 ((k : Int) - 1)) - (i : Int))))) = 8 * ((k : Int) - 1 - (i : Int)) := by
      rw [wrapI (n := (k : Int) - 1) (by omega) (by omega), wrapI (by omega) (by omega), wrapU (n := (k : Int) - 1 - (i : Int)) (by omega) (by omega), wrapU (by omega) (by omega)]
    rw [w1, w2, Int.toNat_natCast]
    refine er_t (decide_eq_true (by omega)) (er_t (decide_eq_true (by omega)) (er_t (by rw [decide_eq_true (by omega), decide_eq_true (by simp; omega)]; rfl) (er_get hg (er_lab ?_))))
    have ih := g43 n k hk m (i + 1) (by omega)
    rw [List.range_succ, List.map_append] at ih
    show Goes Γ (runS []) 43 7 ⟨[(0, .i .u64 n), (1, .i .i64 (k : Int)), (6, .ref 5 0), (27, .i .i64 (k : Int)), (28, .i .i64 ((i + 1 : Nat) : Int))], [some (.arr 5 (List.set ((List.range i).map (elt n k) ++ List.replicate (m + 1) (D.int .u8 0)) i (elt n k i)) false)]⟩ _
    rw [hs]
    exact ih
theorem spPut_ok : SpecOK Γ ⟨43, dat spPut⟩ := dat_ok fun args r hr => by
  unfold spPut at hr
  split at hr
  · rename_i n k
    simp only [Option.some.injEq, Prod.mk.injEq] at hr
    obtain ⟨h1, rfl⟩ := hr
    unfold putC at h1
    simp only [Bool.or_eq_true, Bool.and_eq_true, beq_iff_eq] at h1
    rcases h1 with ⟨rfl, h2⟩ | rfl
    · unfold inR at h2
      simp only [Bool.and_eq_true, decide_eq_true_eq] at h2
      obtain ⟨q, hq⟩ := g43 n 4 (by omega) 4 0 (by omega)
      refine ret_goes (Γ := Γ) hP hZ none_ok (by kernel_rfl) ⟨q, ?_⟩
      have hz : shrV .u64 n (IntKind.wrap .u64 (8 * (IntKind.wrap .u64 4))) = 0 := by
        show n.fdiv 4294967296 = 0
        rw [Int.fdiv_eq_ediv_of_nonneg _ (by omega)]
        omega
      rw [w43, hz]
      exact hq
    · obtain ⟨q, hq⟩ := g43 n 8 (by omega) 8 0 (by omega)
      refine ret_goes (Γ := Γ) hP hZ none_ok (by kernel_rfl) ⟨q, ?_⟩
      rw [w43]
      exact hq
  · cases hr
/-! ### the words of a block -/
theorem W45_ok : CallsOK Γ W45 := specs_ok (.cons spSpread_ok (.cons spGet_ok .nil))
theorem u32_get {P : List Int} {m : Nat} {j : Nat} (h : j < P.length) : (P.map (D.int .u32) ++ List.replicate m (D.int .u32 0))[j]? = some (D.int .u32 (P.getD j 0)) := by
  rw [List.getElem?_append_left (by simpa using h), List.getElem?_map, List.getElem?_eq_getElem h, List.getD_eq_getElem?_getD, List.getElem?_eq_getElem h]
  rfl
theorem g45_9 (y2 : List D) : ∀ (m : Nat) (P : List Int), P.length + m = 64 → 16 ≤ P.length →
    Goes Γ W45 45 9 ⟨[(2, .ptr 0 [] 82), (3, .ptr 1 [] 82), (7, .i .i64 (P.length : Int))], [some (.box 82 (.d 82 (D.agg y2))), some (.box 82 (.d 82 (D.agg (P.map (D.int .u32) ++ List.replicate m (D.int .u32 0)))))]⟩ (.d 82 (.agg ((sch m P).map (D.int .u32))), [])
  | 0, P, h, h2 => by
    refine Goes.er (er_of (fun q => w45_9a _ _ _ _) (er_f (decide_eq_false (by omega)) (er_is ?_)))
    rw [List.replicate_zero, List.append_nil]; rfl
  | m + 1, P, h, h2 => by
    have w1 : IntKind.wrap .i64 ((P.length : Int) + 1) = ((P.length + 1 : Nat) : Int) := by rw [wrapI (by omega) (by omega)]; omega
    have a2 : IntKind.wrap .i64 ((P.length : Int) - 2) = ((P.length - 2 : Nat) : Int) := by rw [wrapI (by omega) (by omega)]; omega
    have a7 : IntKind.wrap .i64 ((P.length : Int) - 7) = ((P.length - 7 : Nat) : Int) := by rw [wrapI (by omega) (by omega)]; omega
    have a15 : IntKind.wrap .i64 ((P.length : Int) - 15) = ((P.length - 15 : Nat) : Int) := by rw [wrapI (by omega) (by omega)]; omega
    have a16 : IntKind.wrap .i64 ((P.length : Int) - 16) = ((P.length - 16 : Nat) : Int) := by rw [wrapI (by omega) (by omega)]; omega
    have cn : ∀ j : Nat, j < 64 → (decide ((0 : Int) ≤ (j : Int)) && decide ((j : Int) < 64)) = true := fun j hj => by rw [decide_eq_true (by omega), decide_eq_true (by omega)]; rfl
    refine Goes.er (er_of (fun q => w45_9a _ _ _ _) ?_)
    rw [w1, a2, a7, a15, a16]
    simp only [Int.toNat_natCast]
    refine er_t (decide_eq_true (by omega)) (er_t (cn _ (by omega)) (er_get (u32_get (by omega)) (er_w (er_t (cn _ (by omega)) (er_get (u32_get (by omega)) (er_w (er_t (cn _ (by omega)) (er_get (u32_get (by omega)) (er_w (er_t (cn _ (by omega)) (er_get (u32_get (by omega)) (er_w (er_t (cn _ (by omega)) (er_lab ?_))))))))))))))
    have ih := g45_9 y2 m (P ++ [nx P]) (by simp; omega) (by simp; omega)
    have hs := set_rep (P.map (D.int .u32)) m (D.int .u32 0) (D.int .u32 (nx P))
    rw [List.length_map] at hs
    rw [List.length_append, List.map_append] at ih
    show Goes Γ W45 45 9 ⟨[(2, .ptr 0 [] 82), (3, .ptr 1 [] 82), (7, .i .i64 ((P.length + 1 : Nat) : Int))], [some (.box 82 (.d 82 (D.agg y2))), some (.box 82 (.d 82 (D.agg (List.set (P.map (D.int .u32) ++ List.replicate (m + 1) (D.int .u32 0)) P.length (D.int .u32 (nx P))))))]⟩ _
    rw [hs]
    exact ih
theorem g45_3 (t : Tx) (ht : t.length = 64) (y3 : List D) : ∀ (m i : Nat), i + m = 16 →
    Goes Γ W45 45 3 ⟨[(0, .sl 5 .any (bytesD t)), (2, .ptr 0 [] 82), (3, .ptr 1 [] 82), (8, .i .i64 (i : Int))], [some (.box 82 (.d 82 (D.agg y3))), some (.box 82 (.d 82 (D.agg ((words t i).map (D.int .u32) ++ List.replicate (48 + m) (D.int .u32 0)))))]⟩ (.d 82 (.agg ((schedW t).map (D.int .u32))), [])
  | 0, i, h => by
    obtain rfl : i = 16 := by omega
    refine Goes.er (er_of (fun q => w45_3a _ _ _ _ _) (er_f (decide_eq_false (by omega)) (er_lab ?_)))
    have := g45_9 y3 48 (words t 16) (by rw [words_len]) (by rw [words_len]; omega)
    rw [words_len] at this
    exact this
  | m + 1, i, h => by
    have w1 : IntKind.wrap .i64 ((i : Int) + 1) = ((i + 1 : Nat) : Int) := by rw [wrapI (by omega) (by omega)]; omega
    have w4 : IntKind.wrap .i64 (4 * (i : Int)) = ((4 * i : Nat) : Int) := by rw [wrapI (by omega) (by omega)]; omega
    have w5 : IntKind.wrap .i64 (((4 * i : Nat) : Int) + 4) = ((4 * i + 4 : Nat) : Int) := by rw [wrapI (by omega) (by omega)]; omega
    have hcut : List.take ((4 * i + 4) - (4 * i)) (List.drop (4 * i) (bytesD t)) = bytesD ((t.drop (4 * i)).take 4) := by
      rw [show (4 * i + 4) - (4 * i) = 4 by omega, bytesD_drop, bytesD_take]
    have hb4 : b4 (bytesD ((t.drop (4 * i)).take 4)) = true := by
      unfold b4
      rw [isBy_bytesD, bytesD_len, List.length_take, List.length_drop, decide_eq_true (by omega)]; rfl
    refine Goes.er (er_of (fun q => w45_3a _ _ _ _ _) ?_)
    rw [w1, w4, w5]
    simp only [Int.toNat_natCast]
    rw [hcut, unB_bytesD]
    refine er_t (decide_eq_true (by omega)) (er_t (by rw [decide_eq_true (by omega), decide_eq_true (by rw [bytesD_len]; omega)]; rfl) (er_t (by rw [decide_eq_true (by omega), decide_eq_true (by omega)]; rfl) (er_t hb4 (er_t (by rw [decide_eq_true (by omega), decide_eq_true (by omega)]; rfl) (er_lab ?_)))))
    have ih := g45_3 t ht y3 m (i + 1) (by omega)
    have hs := set_rep ((words t i).map (D.int .u32)) (48 + m) (D.int .u32 0) (D.int .u32 (word4 t i))
    rw [List.length_map, words_len] at hs
    rw [words, List.map_append] at ih
    show Goes Γ W45 45 3 ⟨[(0, .sl 5 .any (bytesD t)), (2, .ptr 0 [] 82), (3, .ptr 1 [] 82), (8, .i .i64 ((i + 1 : Nat) : Int))], [some (.box 82 (.d 82 (D.agg y3))), some (.box 82 (.d 82 (D.agg (List.set ((words t i).map (D.int .u32) ++ List.replicate (48 + m + 1) (D.int .u32 0)) i (D.int .u32 (word4 t i))))))]⟩ _
    rw [hs]
    exact ih
theorem b64_eq {l : List D} (h : b64 l = true) : l = bytesD (unB l) ∧ (unB l).length = 64 := by
  unfold b64 at h
  simp only [Bool.and_eq_true, decide_eq_true_eq] at h
  exact ⟨isBy_eq h.1, by rw [unB_len]; exact h.2⟩
theorem spSched_ok : SpecOK Γ ⟨45, dat spSched⟩ := dat_ok fun args r hr => by
  unfold spSched at hr
  split at hr
  · rename_i c l
    simp only [Option.some.injEq, Prod.mk.injEq] at hr
    obtain ⟨h1, rfl⟩ := hr
    obtain ⟨h2, h3⟩ := b64_eq h1
    refine RetX.anyc ?_
    obtain ⟨q, hq⟩ := g45_3 (unB l) h3 (List.replicate 64 (D.int .u32 0)) 16 0 (by omega)
    rw [← h2] at hq
    refine ret_goes (Γ := Γ) hP hZ W45_ok (by kernel_rfl) ⟨q, ?_⟩
    rw [w45]
    exact hq
  · cases hr
end Go.Proofs.YtafmogdnhpnbiaaDoor.V

/- Digests: contracts of the program's digest: a block mixed in, bytes written, the sum. -/
namespace Go.Proofs.YtafmogdnhpnbiaaDoor.V
open Go
set_option maxRecDepth 100000
set_option linter.unusedVariables false
set_option linter.unusedSimpArgs false
theorem RetX.args {Γ : Ctx} {g : FuncId} {args args' : List AV} {obs obs' : Objs} {r : AV} (h : RetX Γ g args obs r obs') (k : WkL Γ.P args' args) : RetX Γ g args' obs r obs' := fun w S σ X vals h0 h1 h2 => h w S σ X vals h0 h1 (k.rep h2)
theorem c41 (_ : true = true) : RetX Γ 41 [] [] (.d 73 (.agg begW.l)) [] := ret_goes (Γ := Γ) hP hZ none_ok (by kernel_rfl) ⟨0, by rw [w41]; rfl⟩
def W8.li (v : W8) : List Int := [v.a, v.b, v.c, v.d, v.e, v.f, v.g, v.h]
theorem l_li (v : W8) : v.l = v.li.map (D.int .u32) := rfl
theorem li_get {Q Y : List Int} {y : Int} {v : W8} (h : v.li = Q ++ y :: Y) : v.l[Q.length]? = some (D.int .u32 y) := by
  rw [l_li, h]; simp
theorem W42_ok : CallsOK Γ W42 := specs_ok (.cons spSched_ok (.cons spSpread_ok .nil))
theorem g42_13 (v z : W8) : ∀ (X Y P Q : List Int), v.li = Q ++ Y → P.length = Q.length → X.length = Y.length →
    Goes Γ W42 42 13 ⟨[(2, .ptr 0 [] 73), (4, .ptr 1 [] 73), (6, .ptr 2 [] 73), (91, .i .i64 (P.length : Int))], [some (.box 73 (.d 73 (D.agg ((P ++ X).map (D.int .u32))))), some (.box 73 (.d 73 (D.agg z.l))), some (.box 73 (.d 73 (D.agg v.l)))]⟩ (.d 73 (.agg ((P ++ List.zipWith addU X Y).map (D.int .u32))), [])
  | [], Y, P, Q, h1, h2, h3 => by
    have hY : Y = [] := List.eq_nil_of_length_eq_zero h3.symm
    subst hY
    have hl : v.li.length = Q.length := by rw [h1]; simp
    have : v.li.length = 8 := rfl
    refine Goes.er (er_of (fun q => w42_13b _ _ _ z.a z.b z.c z.d z.e z.f z.g z.h v.a v.b v.c v.d v.e v.f v.g v.h) (er_f (decide_eq_false (by omega)) (er_is ?_)))
    simp [List.zipWith]
  | x :: X, [], P, Q, h1, h2, h3 => by simp at h3
  | x :: X, y :: Y, P, Q, h1, h2, h3 => by
    have hl : v.li.length = Q.length + (Y.length + 1) := by rw [h1]; simp
    have h8 : v.li.length = 8 := rfl
    have w1 : IntKind.wrap .i64 ((P.length : Int) + 1) = ((P.length + 1 : Nat) : Int) := by rw [wrapI (by omega) (by omega)]; omega
    have cn : (decide ((0 : Int) ≤ (P.length : Int)) && decide ((P.length : Int) < 8)) = true := by rw [decide_eq_true (by omega), decide_eq_true (by omega)]; rfl
    have hg1 : ((P ++ x :: X).map (D.int .u32))[P.length]? = some (D.int .u32 x) := by simp
    have hg2 := li_get h1
    rw [← h2] at hg2
    have hs : ((P ++ x :: X).map (D.int .u32)).set P.length (D.int .u32 (addU x y)) = ((P ++ [addU x y]) ++ X).map (D.int .u32) := by simp [List.set_append]
    refine Goes.er (er_of (fun q => w42_13b _ _ _ z.a z.b z.c z.d z.e z.f z.g z.h v.a v.b v.c v.d v.e v.f v.g v.h) ?_)
    rw [w1]
    simp only [Int.toNat_natCast]
    refine er_t (decide_eq_true (by omega)) (er_t cn (er_get hg1 (er_w (er_t cn (er_get hg2 (er_w (er_t cn (er_lab ?_))))))))
    rw [hs]
    have ih := g42_13 v z X Y (P ++ [addU x y]) (Q ++ [y]) (by rw [h1]; simp) (by simp [h2]) (by simpa using h3)
    rw [List.length_append, show P ++ [addU x y] ++ List.zipWith addU X Y = P ++ (addU x y :: List.zipWith addU X Y) by simp] at ih
    rw [List.zipWith_cons_cons]
    exact ih
theorem g42_4 (s z : W8) : ∀ (ks ws kp wp : List Int) (v : W8), (kp ++ ks).length = 64 → (wp ++ ws).length = 64 → kp.length = wp.length →
    Goes Γ W42 42 4 ⟨[(2, .ptr 0 [] 73), (4, .ptr 1 [] 73), (5, .ptr 2 [] 82), (6, .ptr 3 [] 73), (17, .d 82 (D.agg ((kp ++ ks).map (D.int .u32)))), (18, .i .i64 (kp.length : Int))], [some (.box 73 (.d 73 (D.agg s.l))), some (.box 73 (.d 73 (D.agg z.l))), some (.box 82 (.d 82 (D.agg ((wp ++ ws).map (D.int .u32))))), some (.box 73 (.d 73 (D.agg v.l)))]⟩ (.d 73 (.agg (addW s (rounds ks ws v)).l), [])
  | [], ws, kp, wp, v, h1, h2, h3 => by
    have hw : ws = [] := List.eq_nil_of_length_eq_zero (by simp at h1 h2; omega)
    subst hw
    refine Goes.er (er_of (fun q => w42_4a _ _ _ s.a s.b s.c s.d s.e s.f s.g s.h z.a z.b z.c z.d z.e z.f z.g z.h _ v.a v.b v.c v.d v.e v.f v.g v.h) (er_f (decide_eq_false (by simp at h1; omega)) (er_lab ?_)))
    exact g42_13 v z s.li v.li [] [] rfl rfl rfl
  | k :: ks, [], kp, wp, v, h1, h2, h3 => by simp at h1 h2; omega
  | k :: ks, w :: ws, kp, wp, v, h1, h2, h3 => by
    have h1' := h1
    rw [List.length_append, List.length_cons] at h1'
    have w1 : IntKind.wrap .i64 ((kp.length : Int) + 1) = ((kp.length + 1 : Nat) : Int) := by rw [wrapI (by omega) (by omega)]; omega
    have cn : (decide ((0 : Int) ≤ (kp.length : Int)) && decide ((kp.length : Int) < 64)) = true := by rw [decide_eq_true (by omega), decide_eq_true (by omega)]; rfl
    have hg1 : ((kp ++ k :: ks).map (D.int .u32))[((kp.length : Nat) : Int).toNat]? = some (D.int .u32 k) := by simp
    have hg2 : ((wp ++ w :: ws).map (D.int .u32))[kp.length]? = some (D.int .u32 w) := by rw [h3]; simp
    refine Goes.er (er_of (fun q => w42_4a _ _ _ s.a s.b s.c s.d s.e s.f s.g s.h z.a z.b z.c z.d z.e z.f z.g z.h _ v.a v.b v.c v.d v.e v.f v.g v.h) ?_)
    rw [w1]
    simp only [Int.toNat_natCast]
    refine er_t (decide_eq_true (by omega)) (er_idx (by omega) hg1 (er_w (er_t cn (er_get hg2 (er_w (er_lab ?_))))))
    have ih := g42_4 s z ks ws (kp ++ [k]) (wp ++ [w]) (rnd k w v) (by simpa using h1) (by simpa using h2) (by simp [h3])
    rw [List.length_append, List.append_assoc, List.append_assoc, List.singleton_append, List.singleton_append] at ih
    exact ih
theorem facs_len : ([] ++ facs).length = 64 := by rw [List.nil_append]; rfl
theorem sched_len (t : Tx) : ([] ++ schedW t).length = 64 := by rw [List.nil_append, schedW_len]
theorem sched_eq (l : List D) : schedD l = ([] ++ schedW (unB l)).map (D.int .u32) := by unfold schedD; rw [List.nil_append]
theorem facs_eq : (facs.map fun n => D.int .u32 n) = ([] ++ facs).map (D.int .u32) := by rw [List.nil_append]
theorem W34_ok : CallsOK Γ W34 := specs_ok (.cons (sp0_ok c41) .nil)
theorem spMix_ok : SpecOK Γ ⟨42, dat spMix⟩ := dat_ok fun args r hr => by
  unfold spMix at hr
  split at hr
  · rename_i x c l
    simp only [Option.some.injEq, Prod.mk.injEq, Bool.and_eq_true] at hr
    obtain ⟨⟨h1, h2⟩, rfl⟩ := hr
    obtain ⟨hx, _⟩ := isW_eq h1
    obtain ⟨q, hq⟩ := g42_4 (wOf x) ⟨0, 0, 0, 0, 0, 0, 0, 0⟩ facs (schedW (unB l)) [] [] (wOf x) facs_len (sched_len _) rfl
    have hr : RetX Γ 42 [.d 73 (.agg (wOf x).l), .sl 5 .any l] [] (.d 73 (.agg (mixD x l))) [] := by
      refine ret_goes (Γ := Γ) hP hZ W42_ok (by kernel_rfl) ⟨q, ?_⟩
      refine (w42 _ (wOf x).a (wOf x).b (wOf x).c (wOf x).d (wOf x).e (wOf x).f (wOf x).g (wOf x).h l).trans ?_
      rw [h2, cond_true, sched_eq, facs_eq]
      exact hq
    rw [← hx] at hr
    exact hr.args (.cons (WkA.refl _) (.cons (WkA.sl _ _ _) .nil))
  · cases hr
theorem xNew_ok : SpecOK Γ ⟨34, xNew⟩ := by
  intro args obs r obs' hr
  change xNew args obs = some (true, r, obs') at hr
  unfold xNew at hr
  split at hr
  · simp only [Option.some.injEq, Prod.mk.injEq] at hr
    obtain ⟨_, rfl, rfl⟩ := hr
    exact ret_goes (Γ := Γ) hP hZ W34_ok (by kernel_rfl) ⟨0, w34 _⟩
  · cases hr
/-! ### bytes are written -/
theorem W35_ok : CallsOK Γ W35 := specs_ok (.cons spMix_ok .nil)
theorem blk_ok {v : W8} {t : Tx} (hv : v.ok = true) (h : 64 ≤ t.length) : (isW v.l && b64 (List.take 64 (List.drop 0 (bytesD t)))) = true := by
  rw [isW_l hv, List.drop_zero, bytesD_take]
  unfold b64
  rw [isBy_bytesD, bytesD_len, List.length_take, decide_eq_true (by omega)]; rfl
theorem mixD_eq (v : W8) (t : Tx) : mixD v.l (List.take 64 (List.drop 0 (bytesD t))) = (mixW v (t.take 64)).l := by
  unfold mixD
  rw [wOf_l, List.drop_zero, bytesD_take, unB_bytesD]
theorem rest_eq (t : Tx) (h : 64 ≤ t.length) : List.take ((bytesD t).length - 64) (List.drop 64 (bytesD t)) = bytesD (t.drop 64) := by
  rw [bytesD_drop, List.take_of_length_le (by rw [bytesD_len, bytesD_len, List.length_drop]; omega)]
theorem c64 {t : Tx} (h : 64 ≤ t.length) : (decide ((0 : Int) ≤ 64) && decide ((64 : Int) ≤ ((bytesD t).length : Int))) = true := by
  rw [decide_eq_true (by omega), decide_eq_true (by rw [bytesD_len]; omega)]; rfl
section
variable {c3 : Cp} {l4 : List D} {n5 : Int}
theorem g35c : ∀ (n : Nat) (v : W8) (t : Tx), t.length ≤ n → t.length ≤ 4398046511104 → v.ok = true →
    Goes Γ W35 35 3 ⟨[(0, .ptr 0 [] 76), (4, .sl 5 .any (bytesD t))], [some (.box 76 (.d 76 (D.agg [D.agg v.l, D.slice c3 l4, D.int .i64 n5])))]⟩ (.tuple [], [some (.box 76 (.d 76 (D.agg [D.agg (eatT v t).1.l, D.slice .any (bytesD (eatT v t).2), D.int .i64 n5])))])
  | n, v, t, hn, ht, hv => by
    by_cases h : 64 ≤ t.length
    · refine Goes.er (er_of (fun q => w35_3c _ _ _ _ _ _) ?_)
      rw [mixD_eq, rest_eq t h]
      refine er_t (decide_eq_true (by rw [bytesD_len]; omega)) (er_t (c64 h) (er_t (blk_ok hv h) (er_t (c64 h) (er_lab ?_))))
      rw [eatT_hi h]
      cases n with
      | zero => omega
      | succ n => exact g35c n _ _ (by rw [List.length_drop]; omega) (by rw [List.length_drop]; omega) (mixW_ok _ _)
    · refine Goes.er (er_of (fun q => w35_3c _ _ _ _ _ _) (er_f (decide_eq_false (by rw [bytesD_len]; omega)) ?_))
      rw [eatT_lo (by omega)]
      refine er_onnil (fun h0 => ?_) fun _ => er_t (room1 (by rw [bytesD_len]; omega)) er_some
      rw [h0]; exact er_some
theorem g35a : ∀ (n : Nat) (v : W8) (t : Tx), t.length ≤ n → t.length ≤ 4398046511104 → v.ok = true →
    Goes Γ W35 35 3 ⟨[(0, .ptr 0 [] 76), (4, .sl 5 .cl (bytesD t))], [some (.box 76 (.d 76 (D.agg [D.agg v.l, D.slice c3 l4, D.int .i64 n5])))]⟩ (.tuple [], [some (.box 76 (.d 76 (D.agg [D.agg (eatT v t).1.l, D.slice .any (bytesD (eatT v t).2), D.int .i64 n5])))])
  | n, v, t, hn, ht, hv => by
    by_cases h : 64 ≤ t.length
    · refine Goes.er (er_of (fun q => w35_3a _ _ _ _ _ _) ?_)
      rw [mixD_eq, rest_eq t h]
      refine er_t (decide_eq_true (by rw [bytesD_len]; omega)) (er_t (c64 h) (er_t (blk_ok hv h) (er_t (c64 h) (er_lab ?_))))
      rw [eatT_hi h]
      exact g35c _ _ _ (Nat.le_refl _) (by rw [List.length_drop]; omega) (mixW_ok _ _)
    · refine Goes.er (er_of (fun q => w35_3a _ _ _ _ _ _) (er_f (decide_eq_false (by rw [bytesD_len]; omega)) ?_))
      rw [eatT_lo (by omega)]
      refine er_onnil (fun h0 => ?_) fun _ => er_t (room1 (by rw [bytesD_len]; omega)) er_some
      rw [h0]; exact er_some
theorem g35b : ∀ (n : Nat) (v : W8) (t : Tx), t.length ≤ n → t.length ≤ 4398046511104 → v.ok = true →
    Goes Γ W35 35 3 ⟨[(0, .ptr 0 [] 76), (4, .ref 5 1)], [some (.box 76 (.d 76 (D.agg [D.agg v.l, D.slice c3 l4, D.int .i64 n5]))), some (.arr 5 (bytesD t) false)]⟩ (.tuple [], [some (.box 76 (.d 76 (D.agg [D.agg (eatT v t).1.l, D.slice .any (bytesD (eatT v t).2), D.int .i64 n5])))])
  | n, v, t, hn, ht, hv => by
    by_cases h : 64 ≤ t.length
    · refine Goes.er (er_of (fun q => w35_3b _ _ _ _ _ _) ?_)
      rw [mixD_eq, rest_eq t h]
      refine er_t (decide_eq_true (by rw [bytesD_len]; omega)) (er_t (c64 h) (er_t (blk_ok hv h) (er_t (c64 h) (er_lab ?_))))
      rw [eatT_hi h]
      exact g35c _ _ _ (Nat.le_refl _) (by rw [List.length_drop]; omega) (mixW_ok _ _)
    · refine Goes.er (er_of (fun q => w35_3b _ _ _ _ _ _) (er_f (decide_eq_false (by rw [bytesD_len]; omega)) ?_))
      rw [eatT_lo (by omega)]
      refine er_onnil (fun h0 => ?_) fun _ => er_t (room1 (by rw [bytesD_len]; omega)) er_some
      rw [h0]; exact er_some
end
theorem all_eq (l : List D) : List.take ((Int.toNat ((l.length : Int))) - 0) (List.drop 0 l) = l := by
  rw [Int.toNat_natCast, Nat.sub_zero, List.drop_zero, List.take_length]
theorem c_all (l : List D) : (decide ((0 : Int) ≤ (l.length : Int)) && decide ((l.length : Int) ≤ (l.length : Int))) = true := by rw [decide_eq_true (by omega), decide_eq_true (by omega)]; rfl
theorem c_all2 (l : List D) : (decide ((0 : Int) ≤ (l.length : Int)) && decide ((l.length : Int) ≤ (Int.toNat ((l.length : Int)) : Int))) = true := by rw [Int.toNat_natCast]; exact c_all l
theorem nbeq (n : Nat) : Nat.beq n n = true := Nat.beq_refl n
theorem xWr_ok : SpecOK Γ ⟨35, xWr⟩ := by
  intro args obs r obs' hr
  change xWr args obs = some (true, r, obs') at hr
  unfold xWr at hr
  split at hr
  · rename_i cb b ws c rs n
    simp only [Option.some.injEq, Prod.mk.injEq] at hr
    obtain ⟨h1, rfl, rfl⟩ := hr
    unfold wrC at h1
    simp only [Bool.and_eq_true, decide_eq_true_eq] at h1
    obtain ⟨k1, k2, k3, k4, k5, k6, k7⟩ := h1
    obtain ⟨hw, hwo⟩ := isW_eq k1
    have hrs := isBy_eq k2
    have hb := isBy_eq k3
    refine RetX.args (args := [.ptr 0 [] 76, .sl 5 .any b]) ?_ (.cons (WkA.refl _) (.cons (WkA.sl _ _ _) .nil))
    have w1 : IntKind.wrap .i64 (n + (b.length : Int)) = n + (b.length : Int) := wrapI (by omega) (by omega)
    have hcat : rs ++ b = bytesD (unB rs ++ unB b) := by rw [bytesD_app, ← hrs, ← hb]
    have : EXR (.tuple [], [some (.box 76 (.d 76 (D.agg [D.agg (wrW ws rs b), D.slice .any (wrR ws rs b), D.int .i64 (n + (b.length : Int))])))]) fun q => evF Γ W35 (L Γ W35 35 q) 35 [.ptr 0 [] 76, .sl 5 .any b] [some (.box 76 (.d 76 (D.agg [D.agg ws, D.slice c rs, D.int .i64 n])))] := by
      refine er_of (fun q => w35 _ _ _ _ _ _) ?_
      rw [all_eq, w1]
      refine er_t (c_all _) (er_t (c_all2 _) (er_t (nbeq _) (er_onnil (fun h0 => er_lab ?_) fun _ => er_t (room1 (by omega)) (er_lab ?_))))
      · have h := g35a (c3 := c) (l4 := rs) (n5 := n + (b.length : Int)) _ (wOf ws) (unB rs ++ unB b) (Nat.le_refl _) (by rw [List.length_append, unB_len, unB_len]; omega) hwo
        rw [← hcat, ← hw, h0, List.append_nil] at h
        unfold wrW wrR
        rw [h0]
        exact h
      · have h := g35b (c3 := c) (l4 := rs) (n5 := n + (b.length : Int)) _ (wOf ws) (unB rs ++ unB b) (Nat.le_refl _) (by rw [List.length_append, unB_len, unB_len]; omega) hwo
        rw [← hcat, ← hw] at h
        exact h
    obtain ⟨k, hk⟩ := this
    exact ret_goes (Γ := Γ) hP hZ W35_ok (by kernel_rfl) ⟨k, hk⟩
  · cases hr
end Go.Proofs.YtafmogdnhpnbiaaDoor.V

/- Digests: contracts of the program's digest: the sum of what was written; the digest of parts. -/
namespace Go.Proofs.YtafmogdnhpnbiaaDoor.V
open Go
set_option maxRecDepth 100000
set_option linter.unusedVariables false
set_option linter.unusedSimpArgs false
theorem W36_ok : CallsOK Γ W36 := specs_ok (.cons spMix_ok (.cons spPut_ok .nil))
theorem putL_rep {α : Type} (A B : List α) (z : α) (m k : Nat) (hk : A.length = k) (hB : B.length = 4) : putL (A ++ List.replicate (m + 4) z) k B = (A ++ B) ++ List.replicate m z := by
  subst hk
  unfold putL
  rw [List.take_left, hB, ← List.drop_drop, List.drop_left, List.drop_replicate]
  simp
theorem outW_li (v : W8) : outW v = v.li.flatMap fun n => putB n 4 := by
  unfold outW W8.li
  simp [List.append_assoc]
section
variable {y3 y7 l5 : List D} {c4 : Cp} {n6 : Int}
theorem g36_14 (v : W8) : ∀ (X Q : List Int) (P : Tx), v.li = Q ++ X → X.all inR = true → P.length = 4 * Q.length →
    Goes Γ W36 36 14 ⟨[(2, .ptr 1 [] 35), (3, .ptr 2 [] 35), (65, .d 73 (D.agg v.l)), (66, .i .i64 (Q.length : Int))], [some (.box 76 (.d 76 (D.agg [D.agg y3, D.slice c4 l5, D.int .i64 n6]))), some (.box 35 (.d 35 (D.agg y7))), some (.box 35 (.d 35 (D.agg (bytesD P ++ List.replicate (4 * X.length) (D.int .u8 0)))))]⟩
      (.d 35 (.agg (bytesD (P ++ X.flatMap fun n => putB n 4))), [some (.box 76 (.d 76 (D.agg [D.agg y3, D.slice c4 l5, D.int .i64 n6])))])
  | [], Q, P, h1, h2, h3 => by
    have h8 : v.li.length = 8 := rfl
    rw [h1, List.append_nil] at h8
    refine Goes.er (er_of (fun q => w36_14a _ _ _ _ _ _ _ _ _) (er_f (decide_eq_false (by omega)) (er_is ?_)))
    simp
  | x :: X, Q, P, h1, h2, h3 => by
    have h8 : v.li.length = 8 := rfl
    have hl : v.li.length = Q.length + (X.length + 1) := by rw [h1]; simp
    have h2 : inR x = true ∧ X.all inR = true := by simpa using h2
    have hx := h2.1
    unfold inR at hx
    simp only [Bool.and_eq_true, decide_eq_true_eq] at hx
    have w1 : IntKind.wrap .i64 ((Q.length : Int) + 1) = ((Q.length + 1 : Nat) : Int) := by rw [wrapI (by omega) (by omega)]; omega
    have w4 : IntKind.wrap .i64 (4 * (Q.length : Int)) = ((4 * Q.length : Nat) : Int) := by rw [wrapI (by omega) (by omega)]; omega
    have wx : IntKind.wrap .u64 x = x := wrapU (by omega) (by omega)
    have hpc : putC x 4 = true := by unfold putC; rw [h2.1]; rfl
    have hB : (List.take (32 - 4 * Q.length) (bytesD (putB x 4))) = bytesD (putB x 4) := List.take_of_length_le (by rw [bytesD_len, putB_len]; omega)
    have hpl : putL (bytesD P ++ List.replicate (4 * X.length + 4) (D.int .u8 0)) (4 * Q.length) (bytesD (putB x 4)) = bytesD (P ++ putB x 4) ++ List.replicate (4 * X.length) (D.int .u8 0) := by
      rw [putL_rep _ _ _ _ _ (by rw [bytesD_len]; exact h3) (by rw [bytesD_len, putB_len]), bytesD_app]
    refine Goes.er (er_of (fun q => w36_14a _ _ _ _ _ _ _ _ _) ?_)
    rw [w1, w4]
    refine er_t (decide_eq_true (by omega)) (er_idx (y := D.int .u32 x) (by omega) (by rw [Int.toNat_natCast]; exact li_get h1) (er_w ?_))
    rw [wx]
    refine er_t hpc (er_t (by rw [decide_eq_true (by omega), decide_eq_true (by omega)]; rfl) (er_lab ?_))
    have ih := g36_14 v X (Q ++ [x]) (P ++ putB x 4) (by rw [h1]; simp) h2.2 (by rw [List.length_append, List.length_append, putB_len, h3]; simp; omega)
    rw [List.length_append, ← hpl, List.append_assoc] at ih
    show Goes Γ W36 36 14 ⟨[(2, .ptr 1 [] 35), (3, .ptr 2 [] 35), (65, .d 73 (D.agg v.l)), (66, .i .i64 ((Q.length + 1 : Nat) : Int))], [some (.box 76 (.d 76 (D.agg [D.agg y3, D.slice c4 l5, D.int .i64 n6]))), some (.box 35 (.d 35 (D.agg y7))), some (.box 35 (.d 35 (D.agg (putL (bytesD P ++ List.replicate (4 * X.length + 4) (D.int .u8 0)) (4 * Q.length) (List.take (32 - 4 * Q.length) (bytesD (putB x 4)))))))]⟩ _
    rw [hB]
    exact ih
theorem ok_all {v : W8} (h : v.ok = true) : v.li.all inR = true := by
  unfold W8.ok at h
  unfold W8.li
  simp only [List.all_cons, List.all_nil, Bool.and_true]
  exact h
theorem g36_14' (v : W8) (hv : v.ok = true) : Goes Γ W36 36 14 ⟨[(2, .ptr 1 [] 35), (3, .ptr 2 [] 35), (65, .d 73 (D.agg v.l)), (66, .i .i64 0)], [some (.box 76 (.d 76 (D.agg [D.agg y3, D.slice c4 l5, D.int .i64 n6]))), some (.box 35 (.d 35 (D.agg y7))), some (.box 35 (.d 35 (D.agg (List.replicate 32 (D.int .u8 0)))))]⟩
      (.d 35 (.agg (bytesD (outW v))), [some (.box 76 (.d 76 (D.agg [D.agg y3, D.slice c4 l5, D.int .i64 n6])))]) := by
  have := g36_14 (y3 := y3) (y7 := y7) (l5 := l5) (c4 := c4) (n6 := n6) v v.li [] [] rfl (ok_all hv) rfl
  rw [List.nil_append, ← outW_li] at this
  exact this
theorem g36_10b : ∀ (n : Nat) (v : W8) (t : Tx), t.length ≤ n → t.length % 64 = 0 → v.ok = true →
    Goes Γ W36 36 10 ⟨[(2, .ptr 1 [] 35), (3, .ptr 2 [] 35), (4, .sl 5 .any (bytesD t)), (7, .ptr 3 [] 73)], [some (.box 76 (.d 76 (D.agg [D.agg y3, D.slice c4 l5, D.int .i64 n6]))), some (.box 35 (.d 35 (D.agg y7))), some (.box 35 (.d 35 (D.agg (List.replicate 32 (D.int .u8 0))))), some (.box 73 (.d 73 (D.agg v.l)))]⟩
      (.d 35 (.agg (bytesD (outW (eatT v t).1))), [some (.box 76 (.d 76 (D.agg [D.agg y3, D.slice c4 l5, D.int .i64 n6])))])
  | n, v, t, hn, hm, hv => by
    by_cases h : 64 ≤ t.length
    · refine Goes.er (er_of (fun q => w36_10b _ _ _ _ _ _ _ _ _) ?_)
      rw [mixD_eq, rest_eq t h]
      refine er_t (decide_eq_true (by rw [bytesD_len]; omega)) (er_t (c64 h) (er_t (blk_ok hv h) (er_t (c64 h) (er_lab ?_))))
      rw [eatT_hi h]
      cases n with
      | zero => omega
      | succ n => exact g36_10b n _ _ (by rw [List.length_drop]; omega) (by rw [List.length_drop]; omega) (mixW_ok _ _)
    · refine Goes.er (er_of (fun q => w36_10b _ _ _ _ _ _ _ _ _) (er_f (decide_eq_false (by rw [bytesD_len]; omega)) (er_lab ?_)))
      rw [eatT_lo (by omega)]
      exact g36_14' v hv
theorem g36_10a (v : W8) (t : Tx) (hm : t.length % 64 = 0) (h : 64 ≤ t.length) (hv : v.ok = true) :
    Goes Γ W36 36 10 ⟨[(2, .ptr 1 [] 35), (3, .ptr 2 [] 35), (4, .ref 5 3), (7, .ptr 4 [] 73)], [some (.box 76 (.d 76 (D.agg [D.agg y3, D.slice c4 l5, D.int .i64 n6]))), some (.box 35 (.d 35 (D.agg y7))), some (.box 35 (.d 35 (D.agg (List.replicate 32 (D.int .u8 0))))), some (.arr 5 (bytesD t) false), some (.box 73 (.d 73 (D.agg v.l)))]⟩
      (.d 35 (.agg (bytesD (outW (eatT v t).1))), [some (.box 76 (.d 76 (D.agg [D.agg y3, D.slice c4 l5, D.int .i64 n6])))]) := by
  refine Goes.er (er_of (fun q => w36_10a _ _ _ _ _ _ _ _ _) ?_)
  rw [mixD_eq, rest_eq t h]
  refine er_t (decide_eq_true (by rw [bytesD_len]; omega)) (er_t (c64 h) (er_t (blk_ok hv h) (er_t (c64 h) (er_lab ?_))))
  rw [eatT_hi h]
  exact g36_10b _ _ _ (Nat.le_refl _) (by rw [List.length_drop]; omega) (mixW_ok _ _)
theorem g36_5 (v : W8) (n : Nat) (hn : n ≤ 1099511627776) (hv : v.ok = true) : ∀ (m : Nat) (t : Tx), m < 64 → (t.length + m) % 64 = 56 → t.length + m ≤ 1000 →
    Goes Γ W36 36 5 ⟨[(0, .ptr 0 [] 76), (2, .ptr 1 [] 35), (3, .ptr 2 [] 35), (4, .ref 5 3)], [some (.box 76 (.d 76 (D.agg [D.agg v.l, D.slice c4 l5, D.int .i64 (n : Int)]))), some (.box 35 (.d 35 (D.agg y7))), some (.box 35 (.d 35 (D.agg (List.replicate 32 (D.int .u8 0))))), some (.arr 5 (bytesD t) false)]⟩
      (.d 35 (.agg (bytesD (outW (eatT v (t ++ (List.replicate m 0 ++ putB ((n : Int) * 8) 8))).1))), [some (.box 76 (.d 76 (D.agg [D.agg v.l, D.slice c4 l5, D.int .i64 (n : Int)])))])
  | 0, t, h1, h2, h3 => by
    have hs : shlV .u64 (IntKind.wrap .u64 (n : Int)) 3 = (n : Int) * 8 := by
      rw [wrapU (by omega) (by omega)]
      show IntKind.wrap .u64 ((n : Int) * 8) = _
      exact wrapU (by omega) (by omega)
    refine Goes.er (er_of (fun q => w36_5a _ _ _ _ _ _ _ _) ?_)
    rw [hs]
    refine er_f ?_ (er_t rfl (er_t (room1 (by rw [bytesD_len, bytesD_len, putB_len]; show t.length + 8 ≤ _; omega)) (er_lab ?_)))
    · rw [bytesD_len, Int.tmod_eq_emod_of_nonneg (by omega)]
      rw [bne_eq_false_iff_eq]; omega
    · rw [List.replicate_zero, List.nil_append]
      have := g36_10a (y3 := v.l) (y7 := y7) (l5 := l5) (c4 := c4) (n6 := (n : Int)) v (t ++ putB ((n : Int) * 8) 8) (by rw [List.length_append, putB_len]; omega) (by rw [List.length_append, putB_len]; omega) hv
      rw [bytesD_app] at this
      exact this
  | m + 1, t, h1, h2, h3 => by
    refine Goes.er (er_of (fun q => w36_5a _ _ _ _ _ _ _ _) (er_t ?_ (er_t (room1 (by rw [bytesD_len]; omega)) (er_lab ?_))))
    · rw [bytesD_len, Int.tmod_eq_emod_of_nonneg (by omega)]
      rw [bne_iff_ne]; omega
    · have ih := g36_5 v n hn hv m (t ++ [0]) (by omega) (by rw [List.length_append, List.length_singleton]; omega) (by rw [List.length_append, List.length_singleton]; omega)
      rw [List.replicate_succ]
      rw [bytesD_app, List.append_assoc] at ih
      exact ih
end
theorem xSm_ok : SpecOK Γ ⟨36, xSm⟩ := by
  intro args obs r obs' hr
  change xSm args obs = some (true, r, obs') at hr
  unfold xSm at hr
  split at hr
  · rename_i ws c rs n
    simp only [Option.some.injEq, Prod.mk.injEq] at hr
    obtain ⟨h1, rfl, rfl⟩ := hr
    rw [Bool.and_eq_true] at h1
    obtain ⟨h1, h2⟩ := h1
    have h2 := of_decide_eq_true h2
    unfold smC at h1
    simp only [Bool.and_eq_true, decide_eq_true_eq] at h1
    obtain ⟨k1, k2, k3, k4, k5⟩ := h1
    obtain ⟨hw, hwo⟩ := isW_eq k1
    have hrs := isBy_eq k2
    obtain ⟨N, rfl⟩ : ∃ N : Nat, n = (N : Int) := ⟨n.toNat, by omega⟩
    have : EXR (.d 35 (.agg (smD ws rs (N : Int))), [some (.box 76 (.d 76 (D.agg [D.agg ws, D.slice c rs, D.int .i64 (N : Int)])))]) fun q => evF Γ W36 (L Γ W36 36 q) 36 [.ptr 0 [] 76] [some (.box 76 (.d 76 (D.agg [D.agg ws, D.slice c rs, D.int .i64 (N : Int)])))] := by
      refine er_of (fun q => w36 _ _ _ _ _) ?_
      rw [all_eq]
      refine er_t (c_all _) (er_t (c_all2 _) (er_t (nbeq _) (er_t (room1 (by omega)) (er_lab ?_))))
      have h := g36_5 (y7 := List.replicate 32 (D.int .u8 0)) (l5 := rs) (c4 := c) (wOf ws) N (by omega) hwo (zerN N) (unB rs ++ [128]) (by unfold zerN; omega) (by rw [List.length_append, unB_len, List.length_singleton]; unfold zerN; omega) (by rw [List.length_append, unB_len, List.length_singleton]; unfold zerN; omega)
      rw [← hw, List.append_assoc, bytesD_app, ← hrs] at h
      unfold smD
      rw [Int.toNat_natCast]
      exact h
    obtain ⟨k, hk⟩ := this
    exact ret_goes (Γ := Γ) hP hZ W36_ok (by kernel_rfl) ⟨k, hk⟩
  · cases hr
/-! ### the digest of parts -/
theorem W24_ok : CallsOK Γ W24 := specs_ok (.cons xNew_ok (.cons xWr_ok (.cons xSm_ok .nil)))
theorem beg_ok : begW.ok = true := by decide
theorem sm_ok (t : Tx) (ht : t.length ≤ 1099511627776) : (smC (eatT begW t).1.l (bytesD (eatT begW t).2) (t.length : Int) && decide ((t.length : Int) % 64 = ((bytesD (eatT begW t).2).length : Int))) = true := by
  have hl := eatT_len _ begW t (Nat.le_refl _)
  unfold smC
  rw [isW_l (eatT_ok _ _ _ (Nat.le_refl _) beg_ok), isBy_bytesD, bytesD_len, hl, decide_eq_true (by omega), decide_eq_true (by omega), decide_eq_true (by omega), decide_eq_true (by omega)]; rfl
theorem sm_eq (t : Tx) : smD (eatT begW t).1.l (bytesD (eatT begW t).2) (t.length : Int) = bytesD (shaT t) := by
  unfold smD shaT
  rw [wOf_l, unB_bytesD, Int.toNat_natCast, ← eatT_app _ _ _ _ (Nat.le_refl _)]
theorem wr_ok (t : Tx) (x : List D) (ht : t.length ≤ 1099511627776) (hx : isBy x = true) (hl : x.length ≤ 1099511627776) : wrC (eatT begW t).1.l (bytesD (eatT begW t).2) (t.length : Int) x = true := by
  have h := eatT_len _ begW t (Nat.le_refl _)
  unfold wrC
  rw [isW_l (eatT_ok _ _ _ (Nat.le_refl _) beg_ok), isBy_bytesD, hx, bytesD_len, h, decide_eq_true (by omega), decide_eq_true (by omega), decide_eq_true (by omega), decide_eq_true (by omega)]; rfl
theorem wr_eq (t : Tx) (x : List D) : wrW (eatT begW t).1.l (bytesD (eatT begW t).2) x = (eatT begW (t ++ unB x)).1.l ∧ wrR (eatT begW t).1.l (bytesD (eatT begW t).2) x = bytesD (eatT begW (t ++ unB x)).2 := by
  unfold wrW wrR
  rw [wOf_l, unB_bytesD, ← eatT_app _ _ _ _ (Nat.le_refl _)]
  exact ⟨rfl, rfl⟩
theorem bs_ex {d : D} (h : isBs d = true) : ∃ c x, d = .slice c x ∧ isBy x = true := by
  unfold isBs at h
  split at h
  · exact ⟨_, _, rfl, h⟩
  · cases h
section
variable {y4 : List D}
theorem g24b : ∀ (rest pre : List D) (t : Tx), (pre ++ rest).length ≤ 1073741824 → rest.all isBs = true → t.length + (catB rest).length ≤ 1073741824 →
    Goes Γ W24 24 3 ⟨[(2, .ptr 0 [] 35), (3, .ptr 1 [] 76), (7, .sl 39 .any (pre ++ rest)), (8, .i .i64 (((pre ++ rest).length : Int))), (9, .i .i64 (pre.length : Int))], [some (.box 35 (.d 35 (D.agg y4))), some (.box 76 (.d 76 (D.agg [D.agg (eatT begW t).1.l, D.slice .any (bytesD (eatT begW t).2), D.int .i64 (t.length : Int)])))]⟩ (.d 35 (.agg (bytesD (shaT (t ++ catB rest)))), [])
  | [], pre, t, h1, h2, h3 => by
    refine Goes.er (er_of (fun q => w24_3b _ _ _ _ _ _ _ _) (er_f (decide_eq_false (by simp)) (er_t (sm_ok t (by omega)) (er_is ?_))))
    rw [sm_eq, show catB [] = [] from rfl, List.append_nil]
  | y :: r, pre, t, h1, h2, h3 => by
    have h2 : isBs y = true ∧ r.all isBs = true := by simpa using h2
    obtain ⟨c, x, rfl, hx⟩ := bs_ex h2.1
    have hl : (pre ++ D.slice c x :: r).length = pre.length + (r.length + 1) := by simp
    have hcat : catB (D.slice c x :: r) = unB x ++ catB r := rfl
    rw [hcat, List.length_append, unB_len] at h3
    have w1 : IntKind.wrap .i64 ((pre.length : Int) + 1) = ((pre.length + 1 : Nat) : Int) := by rw [wrapI (by omega) (by omega)]; omega
    obtain ⟨e1, e2⟩ := wr_eq t x
    refine Goes.er (er_of (fun q => w24_3b _ _ _ _ _ _ _ _) ?_)
    rw [w1]
    refine er_t (decide_eq_true (by omega)) (er_idx (by omega) (by rw [Int.toNat_natCast]; exact get_mid _ _ _) (er_sl (er_t (wr_ok t x (by omega) hx (by omega)) (er_lab ?_))))
    rw [e1, e2]
    have ih := g24b r (pre ++ [D.slice c x]) (t ++ unB x) (by simpa using h1) h2.2 (by rw [List.length_append, unB_len]; omega)
    have e3 : ((pre ++ [D.slice c x]).length : Int) = ((pre.length + 1 : Nat) : Int) := by simp
    have e4 : ((t ++ unB x).length : Int) = (t.length : Int) + (x.length : Int) := by rw [List.length_append, unB_len]; omega
    rw [e3, e4, List.append_assoc pre, List.append_assoc t, ← hcat] at ih
    exact ih
theorem g24a (l : List D) (h1 : l.length ≤ 1073741824) (h2 : l.all isBs = true) (h3 : (catB l).length ≤ 1073741824) :
    Goes Γ W24 24 3 ⟨[(2, .ptr 0 [] 35), (3, .ptr 1 [] 76), (7, .sl 39 .any l), (8, .i .i64 ((l.length : Int))), (9, .i .i64 0)], [some (.box 35 (.d 35 (D.agg y4))), some (.box 76 (.d 76 (D.agg [D.agg begW.l, D.slice .nl [], D.int .i64 0])))]⟩ (.d 35 (.agg (bytesD (shaT (catB l)))), []) := by
  cases l with
  | nil =>
    refine Goes.er (er_of (fun q => w24_3a _ _ _ _ _ _ _) (er_f (decide_eq_false (by simp)) (er_t ?_ (er_is ?_))))
    · exact sm_ok [] (by simp)
    · have := sm_eq []
      exact congrArg (fun z => (AV.d 35 (D.agg z), ([] : Objs))) this
  | cons y r =>
    have h2 : isBs y = true ∧ r.all isBs = true := by simpa using h2
    obtain ⟨c, x, rfl, hx⟩ := bs_ex h2.1
    have hcat : catB (D.slice c x :: r) = unB x ++ catB r := rfl
    rw [hcat, List.length_append, unB_len] at h3
    obtain ⟨e1, e2⟩ := wr_eq [] x
    refine Goes.er (er_of (fun q => w24_3a _ _ _ _ _ _ _) ?_)
    refine er_t (decide_eq_true (by simp)) (er_idx (by omega) rfl (er_sl (er_t (wr_ok [] x (by simp) hx (by omega)) (er_lab ?_))))
    have ih := g24b (y4 := y4) r [D.slice c x] (unB x) (by simpa using h1) h2.2 (by rw [unB_len]; omega)
    rw [← hcat, unB_len] at ih
    have e1 : wrW begW.l [] x = (eatT begW (unB x)).1.l := e1
    have e2 : wrR begW.l [] x = bytesD (eatT begW (unB x)).2 := e2
    rw [e1, e2, show (0 : Int) + (x.length : Int) = (x.length : Int) by omega]
    exact ih
end
theorem spSha_ok : SpecOK Γ ⟨24, dat spSha⟩ := dat_ok fun args r hr => by
  unfold spSha at hr
  split at hr
  · simp only [Option.some.injEq, Prod.mk.injEq] at hr
    obtain ⟨_, rfl⟩ := hr
    have : EXR (.d 35 (.agg (bytesD (shaT []))), []) fun q => evF Γ W24 (L Γ W24 24 q) 24 [.snil] [] := by
      refine er_of (fun q => n24 _) (er_lab ?_)
      refine Goes.er (er_of (fun q => n24_3a _ _ _ _ _ _) (er_f rfl (er_t ?_ (er_is ?_))))
      · exact sm_ok [] (by simp)
      · exact congrArg (fun z => (AV.d 35 (D.agg z), ([] : Objs))) (sm_eq [])
    obtain ⟨k, hk⟩ := this
    exact ret_goes (Γ := Γ) hP hZ W24_ok (by kernel_rfl) ⟨k, hk⟩
  · rename_i c l
    simp only [Option.some.injEq, Prod.mk.injEq] at hr
    obtain ⟨h1, rfl⟩ := hr
    unfold bsC at h1
    simp only [Bool.and_eq_true, decide_eq_true_eq] at h1
    refine RetX.anyc ?_
    have : EXR (.d 35 (.agg (shaL l)), []) fun q => evF Γ W24 (L Γ W24 24 q) 24 [.sl 39 .any l] [] := by
      refine er_of (fun q => w24 _ _) (er_lab ?_)
      exact g24a l (by omega) h1.1 (by omega)
    obtain ⟨k, hk⟩ := this
    exact ret_goes (Γ := Γ) hP hZ W24_ok (by kernel_rfl) ⟨k, hk⟩
  · cases hr
end Go.Proofs.YtafmogdnhpnbiaaDoor.V

/- Proofs of leaves: the tree's digest, paths, growths, and what a walker makes of a path: plain. -/
namespace Go.Proofs.YtafmogdnhpnbiaaDoor.V
open Go
set_option linter.unusedVariables false
set_option linter.unusedSimpArgs false
def leafT (b : Tx) : Tx := shaT (0 :: b)
def nodeT (a b : Tx) : Tx := shaT (1 :: (a ++ b))
theorem leafT_len (b : Tx) : (leafT b).length = 32 := shaT_len _
theorem nodeT_len (a b : Tx) : (nodeT a b).length = 32 := shaT_len _
def splF : Nat → Nat → Nat → Nat
  | 0, k, _ => k
  | f + 1, k, n => bif decide (k * 2 < n) then splF f (k * 2) n else k
/-- the greatest power of two below a number -/
def split (n : Nat) : Nat := splF n 1 n
theorem splF_lt : ∀ (f k n : Nat), 1 ≤ k → k < n → 1 ≤ splF f k n ∧ splF f k n < n
  | 0, k, n, h1, h2 => ⟨h1, h2⟩
  | f + 1, k, n, h1, h2 => by
    simp only [splF]
    by_cases h : k * 2 < n
    · rw [decide_eq_true h]; exact splF_lt f (k * 2) n (by omega) h
    · rw [decide_eq_false h]; exact ⟨h1, h2⟩
theorem split_lt {n : Nat} (h : 2 ≤ n) : 1 ≤ split n ∧ split n < n := splF_lt n 1 n (by omega) (by omega)
def rootF : Nat → List Tx → Tx
  | 0, _ => []
  | f + 1, l => match l with
    | [] => shaT []
    | [b] => leafT b
    | l => nodeT (rootF f (l.take (split l.length))) (rootF f (l.drop (split l.length)))
def rootT (l : List Tx) : Tx := rootF (l.length + 1) l
theorem rootF_ge {f : Nat} {l : List Tx} (h : 2 ≤ l.length) : rootF (f + 1) l = nodeT (rootF f (l.take (split l.length))) (rootF f (l.drop (split l.length))) := by
  match l with
  | [] => simp at h
  | [b] => simp at h
  | a :: b :: r => rfl
theorem rootF_more : ∀ (n m : Nat) (l : List Tx), l.length < n → l.length < m → rootF n l = rootF m l
  | 0, _, _, h, _ => by omega
  | _ + 1, 0, _, _, h => by omega
  | n + 1, m + 1, l, h1, h2 => by
    by_cases h : 2 ≤ l.length
    · obtain ⟨k1, k2⟩ := split_lt h
      rw [rootF_ge h, rootF_ge h, rootF_more n m _ (by rw [List.length_take]; omega) (by rw [List.length_take]; omega), rootF_more n m _ (by rw [List.length_drop]; omega) (by rw [List.length_drop]; omega)]
    · match l with
      | [] => rfl
      | [b] => rfl
      | a :: b :: r => simp at h
theorem root_nil : rootT [] = shaT [] := rfl
theorem root_one (b : Tx) : rootT [b] = leafT b := rfl
theorem root_eq {l : List Tx} (h : 2 ≤ l.length) : rootT l = nodeT (rootT (l.take (split l.length))) (rootT (l.drop (split l.length))) := by
  obtain ⟨k1, k2⟩ := split_lt h
  unfold rootT
  rw [rootF_ge h, rootF_more l.length _ _ (by rw [List.length_take]; omega) (Nat.lt_succ_self _), rootF_more l.length _ _ (by rw [List.length_drop]; omega) (Nat.lt_succ_self _)]
theorem rootT_len (l : List Tx) : (rootT l).length = 32 := by
  by_cases h : 2 ≤ l.length
  · rw [root_eq h]; exact nodeT_len _ _
  · match l with
    | [] => exact shaT_len _
    | [b] => exact leafT_len _
    | a :: b :: r => simp at h
def pathF : Nat → List Tx → Nat → List Tx
  | 0, _, _ => []
  | f + 1, l, i => bif decide (l.length ≤ 1) then [] else bif decide (i < split l.length) then pathF f (l.take (split l.length)) i ++ [rootT (l.drop (split l.length))] else pathF f (l.drop (split l.length)) (i - split l.length) ++ [rootT (l.take (split l.length))]
def pathT (l : List Tx) (i : Nat) : List Tx := pathF l.length l i
theorem pathF_more : ∀ (n m : Nat) (l : List Tx) (i : Nat), l.length ≤ n → l.length ≤ m → pathF n l i = pathF m l i
  | 0, 0, _, _, _, _ => rfl
  | 0, m + 1, l, i, h, _ => by
    simp only [pathF]; rw [decide_eq_true (by omega)]; rfl
  | n + 1, 0, l, i, _, h => by
    simp only [pathF]; rw [decide_eq_true (by omega)]; rfl
  | n + 1, m + 1, l, i, h1, h2 => by
    simp only [pathF]
    by_cases h : l.length ≤ 1
    · rw [decide_eq_true h]; rfl
    · obtain ⟨k1, k2⟩ := split_lt (show 2 ≤ l.length by omega)
      rw [decide_eq_false h, pathF_more n m _ _ (by rw [List.length_take]; omega) (by rw [List.length_take]; omega), pathF_more n m _ _ (by rw [List.length_drop]; omega) (by rw [List.length_drop]; omega)]
theorem path_lo {l : List Tx} (i : Nat) (h : l.length ≤ 1) : pathT l i = [] := by
  unfold pathT
  cases hl : l.length with
  | zero => rfl
  | succ n => simp only [pathF]; rw [decide_eq_true h]; rfl
theorem path_hi {l : List Tx} (i : Nat) (h : 2 ≤ l.length) : pathT l i = bif decide (i < split l.length) then pathT (l.take (split l.length)) i ++ [rootT (l.drop (split l.length))] else pathT (l.drop (split l.length)) (i - split l.length) ++ [rootT (l.take (split l.length))] := by
  obtain ⟨k1, k2⟩ := split_lt h
  obtain ⟨n, hn⟩ : ∃ n, l.length = n + 1 := ⟨l.length - 1, by omega⟩
  have : pathT l i = pathF (n + 1) l i := by unfold pathT; rw [hn]
  rw [this]
  simp only [pathF]
  rw [decide_eq_false (show ¬ l.length ≤ 1 by omega)]
  unfold pathT
  rw [pathF_more n _ _ _ (by rw [List.length_take]; omega) (Nat.le_refl _), pathF_more n _ _ _ (by rw [List.length_drop]; omega) (Nat.le_refl _)]
  rfl
def grownF : Nat → List Tx → Nat → Bool → List Tx
  | 0, _, _, _ => []
  | f + 1, l, m, k => bif decide (m = l.length) then (bif k then [] else [rootT l]) else bif decide (m ≤ split l.length) then grownF f (l.take (split l.length)) m k ++ [rootT (l.drop (split l.length))] else grownF f (l.drop (split l.length)) (m - split l.length) false ++ [rootT (l.take (split l.length))]
def grownT (l : List Tx) (m : Nat) (k : Bool) : List Tx := grownF l.length l m k
theorem grownF_more : ∀ (n n' : Nat) (l : List Tx) (m : Nat) (k : Bool), l.length ≤ n → l.length ≤ n' → 1 ≤ m → m ≤ l.length → grownF n l m k = grownF n' l m k
  | 0, _, _, _, _, h, _, h1, h2 => by omega
  | _ + 1, 0, _, _, _, _, h, h1, h2 => by omega
  | n + 1, n' + 1, l, m, k, h1, h2, h3, h4 => by
    simp only [grownF]
    by_cases h : m = l.length
    · rw [decide_eq_true h]; rfl
    · obtain ⟨k1, k2⟩ := split_lt (show 2 ≤ l.length by omega)
      rw [decide_eq_false h]
      by_cases hm : m ≤ split l.length
      · rw [decide_eq_true hm]
        simp only [cond_true, cond_false]
        rw [grownF_more n n' _ _ _ (by rw [List.length_take]; omega) (by rw [List.length_take]; omega) h3 (by rw [List.length_take]; omega)]
      · rw [decide_eq_false hm]
        simp only [cond_true, cond_false]
        rw [grownF_more n n' _ _ _ (by rw [List.length_drop]; omega) (by rw [List.length_drop]; omega) (by omega) (by rw [List.length_drop]; omega)]
theorem grown_all {l : List Tx} (k : Bool) (h : 1 ≤ l.length) : grownT l l.length k = bif k then [] else [rootT l] := by
  unfold grownT
  obtain ⟨n, hn⟩ : ∃ n, l.length = n + 1 := ⟨l.length - 1, by omega⟩
  rw [hn]
  simp only [grownF]
  rw [decide_eq_true hn.symm]; rfl
theorem grown_hi {l : List Tx} {m : Nat} (k : Bool) (h1 : 1 ≤ m) (h2 : m < l.length) : grownT l m k = bif decide (m ≤ split l.length) then grownT (l.take (split l.length)) m k ++ [rootT (l.drop (split l.length))] else grownT (l.drop (split l.length)) (m - split l.length) false ++ [rootT (l.take (split l.length))] := by
  obtain ⟨k1, k2⟩ := split_lt (show 2 ≤ l.length by omega)
  obtain ⟨n, hn⟩ : ∃ n, l.length = n + 1 := ⟨l.length - 1, by omega⟩
  have : grownT l m k = grownF (n + 1) l m k := by unfold grownT; rw [hn]
  rw [this]
  simp only [grownF]
  rw [decide_eq_false (show ¬ m = l.length by omega), cond_false]
  unfold grownT
  by_cases hm : m ≤ split l.length
  · rw [decide_eq_true hm, cond_true, cond_true, grownF_more n _ _ _ _ (by rw [List.length_take]; omega) (Nat.le_refl _) h1 (by rw [List.length_take]; omega)]
  · rw [decide_eq_false hm, cond_false, cond_false, grownF_more n _ _ _ _ (by rw [List.length_drop]; omega) (Nat.le_refl _) (by omega) (by rw [List.length_drop]; omega)]
/-! ### the walker -/
def zer : Tx := List.replicate 32 0
def tkT (p : List Tx) : Tx := p.getLast?.getD zer
/-- the digest, what is left, and whether there was too little -/
def climbF : Nat → List Tx → Bool → Tx → Nat → Nat → Tx × List Tx × Bool
  | 0, p, b, d, _, _ => (d, p, b)
  | f + 1, p, b, d, n, s => bif decide (s = 1) then (d, p, b) else bif b then (d, p, b) else
    bif decide (n < split s) then (nodeT (climbF f p.dropLast (b || p.isEmpty) d n (split s)).1 (tkT p), (climbF f p.dropLast (b || p.isEmpty) d n (split s)).2)
    else (nodeT (tkT p) (climbF f p.dropLast (b || p.isEmpty) d (n - split s) (s - split s)).1, (climbF f p.dropLast (b || p.isEmpty) d (n - split s) (s - split s)).2)
def climbT (p : List Tx) (b : Bool) (d : Tx) (n s : Nat) : Tx × List Tx × Bool := climbF s p b d n s
theorem climbF_more : ∀ (f g : Nat) (p : List Tx) (b : Bool) (d : Tx) (n s : Nat), s ≤ f → s ≤ g → 1 ≤ s → climbF f p b d n s = climbF g p b d n s
  | 0, _, _, _, _, _, _, h, _, h1 => by omega
  | _ + 1, 0, _, _, _, _, _, _, h, h1 => by omega
  | f + 1, g + 1, p, b, d, n, s, h1, h2, h3 => by
    simp only [climbF]
    by_cases h : s = 1
    · rw [decide_eq_true h]; rfl
    · obtain ⟨k1, k2⟩ := split_lt (show 2 ≤ s by omega)
      rw [decide_eq_false h, climbF_more f g _ _ _ _ _ (by omega) (by omega) k1, climbF_more f g _ _ _ _ (s - split s) (by omega) (by omega) (by omega)]
theorem climb_one (p : List Tx) (b : Bool) (d : Tx) (n : Nat) : climbT p b d n 1 = (d, p, b) := rfl
theorem climb_hi (p : List Tx) (b : Bool) (d : Tx) (n : Nat) {s : Nat} (h : 2 ≤ s) : climbT p b d n s = bif b then (d, p, b) else
    bif decide (n < split s) then (nodeT (climbT p.dropLast (b || p.isEmpty) d n (split s)).1 (tkT p), (climbT p.dropLast (b || p.isEmpty) d n (split s)).2)
    else (nodeT (tkT p) (climbT p.dropLast (b || p.isEmpty) d (n - split s) (s - split s)).1, (climbT p.dropLast (b || p.isEmpty) d (n - split s) (s - split s)).2) := by
  obtain ⟨k1, k2⟩ := split_lt h
  obtain ⟨f, rfl⟩ : ∃ f, s = f + 1 := ⟨s - 1, by omega⟩
  unfold climbT
  simp only [climbF]
  rw [decide_eq_false (show ¬ f + 1 = 1 by omega), climbF_more f (split (f + 1)) _ _ _ _ _ (by omega) (Nat.le_refl _) k1, climbF_more f (f + 1 - split (f + 1)) _ _ _ _ _ (by omega) (Nat.le_refl _) (by omega)]
  rfl
def bothF : Nat → List Tx → Bool → Tx → Nat → Nat → Bool → Tx × Tx × List Tx × Bool
  | 0, p, b, d, _, _, _ => (d, d, p, b)
  | f + 1, p, b, d, m, n, k => bif b then (d, d, p, b) else bif decide (m = n) then (bif !k then (tkT p, tkT p, p.dropLast, b || p.isEmpty) else (d, d, p, b)) else
    bif decide (m ≤ split n) then ((bothF f p.dropLast (b || p.isEmpty) d m (split n) k).1, nodeT (bothF f p.dropLast (b || p.isEmpty) d m (split n) k).2.1 (tkT p), (bothF f p.dropLast (b || p.isEmpty) d m (split n) k).2.2)
    else (nodeT (tkT p) (bothF f p.dropLast (b || p.isEmpty) d (m - split n) (n - split n) false).1, nodeT (tkT p) (bothF f p.dropLast (b || p.isEmpty) d (m - split n) (n - split n) false).2.1, (bothF f p.dropLast (b || p.isEmpty) d (m - split n) (n - split n) false).2.2)
def bothT (p : List Tx) (b : Bool) (d : Tx) (m n : Nat) (k : Bool) : Tx × Tx × List Tx × Bool := bothF n p b d m n k
theorem bothF_more : ∀ (f g : Nat) (p : List Tx) (b : Bool) (d : Tx) (m n : Nat) (k : Bool), n ≤ f → n ≤ g → 1 ≤ m → m ≤ n → bothF f p b d m n k = bothF g p b d m n k
  | 0, _, _, _, _, _, _, _, h, _, h1, h2 => by omega
  | _ + 1, 0, _, _, _, _, _, _, _, h, h1, h2 => by omega
  | f + 1, g + 1, p, b, d, m, n, k, h1, h2, h3, h4 => by
    simp only [bothF]
    cases b with
    | true => rfl
    | false =>
      by_cases h : m = n
      · rw [decide_eq_true h]; rfl
      · obtain ⟨k1, k2⟩ := split_lt (show 2 ≤ n by omega)
        rw [decide_eq_false h]
        by_cases hm : m ≤ split n
        · rw [decide_eq_true hm]
          simp only [cond_true, cond_false]
          rw [bothF_more f g _ _ _ _ _ _ (by omega) (by omega) h3 hm]
        · rw [decide_eq_false hm]
          simp only [cond_true, cond_false]
          rw [bothF_more f g _ _ _ _ _ _ (by omega) (by omega) (by omega) (show m - split n ≤ n - split n by omega)]
theorem both_bad (p : List Tx) (d : Tx) {m n : Nat} (k : Bool) (h : 1 ≤ n) : bothT p true d m n k = (d, d, p, true) := by
  obtain ⟨f, rfl⟩ : ∃ f, n = f + 1 := ⟨n - 1, by omega⟩
  rfl
theorem both_all (p : List Tx) (d : Tx) {n : Nat} (k : Bool) (h : 1 ≤ n) : bothT p false d n n k = bif !k then (tkT p, tkT p, p.dropLast, p.isEmpty) else (d, d, p, false) := by
  obtain ⟨f, rfl⟩ : ∃ f, n = f + 1 := ⟨n - 1, by omega⟩
  unfold bothT
  simp only [bothF, decide_true, cond_true, cond_false, Bool.false_or]
theorem both_hi (p : List Tx) (d : Tx) {m n : Nat} (k : Bool) (h1 : 1 ≤ m) (h2 : m < n) : bothT p false d m n k = 
    bif decide (m ≤ split n) then ((bothT p.dropLast p.isEmpty d m (split n) k).1, nodeT (bothT p.dropLast p.isEmpty d m (split n) k).2.1 (tkT p), (bothT p.dropLast p.isEmpty d m (split n) k).2.2)
    else (nodeT (tkT p) (bothT p.dropLast p.isEmpty d (m - split n) (n - split n) false).1, nodeT (tkT p) (bothT p.dropLast p.isEmpty d (m - split n) (n - split n) false).2.1, (bothT p.dropLast p.isEmpty d (m - split n) (n - split n) false).2.2) := by
  obtain ⟨k1, k2⟩ := split_lt (show 2 ≤ n by omega)
  obtain ⟨f, rfl⟩ : ∃ f, n = f + 1 := ⟨n - 1, by omega⟩
  unfold bothT
  simp only [bothF, Bool.false_or]
  rw [decide_eq_false (show ¬ m = f + 1 by omega)]
  by_cases hm : m ≤ split (f + 1)
  · rw [decide_eq_true hm]
    simp only [cond_true, cond_false]
    rw [bothF_more f (split (f + 1)) _ _ _ _ _ _ (by omega) (Nat.le_refl _) h1 hm]
  · rw [decide_eq_false hm]
    simp only [cond_true, cond_false]
    rw [bothF_more f (f + 1 - split (f + 1)) _ _ _ _ _ _ (by omega) (Nat.le_refl _) (by omega) (by omega)]
end Go.Proofs.YtafmogdnhpnbiaaDoor.V

/- Proofs of leaves: the contracts' shapes; what the machine over values makes of the functions: equations, written by program. -/
namespace Go.Proofs.YtafmogdnhpnbiaaDoor.V
open Go
set_option maxRecDepth 100000
set_option linter.unusedVariables false
set_option linter.unusedSimpArgs false
/-! ### the contracts' shapes -/
def splI (n : Int) : Int := (split n.toNat : Int)
def spC (n : Int) : Bool := decide (0 ≤ n) && decide (n ≤ 1073741824)
def spFirst : List AV → Option (Bool × AV)
  | [.i .i64 n] => some (spC n, .i .i64 (splI n))
  | _ => none
def lfC (b : List D) : Bool := isBy b && decide (b.length ≤ 536870912)
def spLeaf : List AV → Option (Bool × AV)
  | [.sl 5 _ b] => some (lfC b, .d 35 (.agg (bytesD (leafT (unB b)))))
  | _ => none
def isDg (l : List D) : Bool := isBy l && decide (l.length = 32)
def spNode : List AV → Option (Bool × AV)
  | [.d 35 (.agg a), .d 35 (.agg b)] => some (isDg a && isDg b, .d 35 (.agg (bytesD (nodeT (unB a) (unB b)))))
  | _ => none
def lvs (l : List D) : List Tx := l.map unBs
def lvC (N : Nat) (l : List D) : Bool := l.all isBs && (decide ((catB l).length + l.length ≤ 536870912) && decide (l.length < N))
def spRoot (N : Nat) : List AV → Option (Bool × AV)
  | [.sl 39 _ l] => some (lvC N l, .d 35 (.agg (bytesD (rootT (lvs l)))))
  | _ => none
def dgs (l : List Tx) : List D := l.map fun t => .agg (bytesD t)
def unDg : D → Tx
  | .agg l => unB l
  | _ => []
def unDs (l : List D) : List Tx := l.map unDg
def isD1 : D → Bool
  | .agg l => isDg l
  | _ => false
def isDs (l : List D) : Bool := l.all isD1 && decide (l.length ≤ 4194304)
def tkD (l : List D) : List D := bytesD (tkT (unDs l))
def tkL (l : List D) : List D := dgs (unDs l).dropLast
def tkB (l : List D) (b : Bool) : Bool := b || l.isEmpty
def xTake : List AV → Objs → Option (Bool × AV × Objs)
  | [.ptr 0 [] 61], [some (.box 61 (.d 61 (.agg [.slice c l, .bool b])))] => some (isDs l, .d 35 (.agg (tkD l)), [some (.box 61 (.d 61 (.agg [.slice .any (tkL l), .bool (tkB l b)])))])
  | _, _ => none
def clT (l : List D) (b : Bool) (d : List D) (n s : Int) : Tx × List Tx × Bool := climbT (unDs l) b (unB d) n.toNat s.toNat
def clC (N : Nat) (l : List D) (b : Bool) (d : List D) (n s : Int) : Bool := isDs l && (isDg d && (decide (0 ≤ n) && (decide (n < s) && (decide (s ≤ (N : Int)) && decide (s ≤ 1073741824)))))
def clD (l : List D) (b : Bool) (d : List D) (n s : Int) : List D := bytesD (clT l b d n s).1
def clL (l : List D) (b : Bool) (d : List D) (n s : Int) : List D := dgs (clT l b d n s).2.1
def clB (l : List D) (b : Bool) (d : List D) (n s : Int) : Bool := (clT l b d n s).2.2
def xClimb (N : Nat) : List AV → Objs → Option (Bool × AV × Objs)
  | [.ptr 0 [] 61, .d 35 (.agg d), .i .i64 n, .i .i64 s], [some (.box 61 (.d 61 (.agg [.slice c l, .bool b])))] => some (clC N l b d n s, .d 35 (.agg (clD l b d n s)), [some (.box 61 (.d 61 (.agg [.slice .any (clL l b d n s), .bool (clB l b d n s)])))])
  | _, _ => none
def boT (l : List D) (b : Bool) (d : List D) (m n : Int) (k : Bool) : Tx × Tx × List Tx × Bool := bothT (unDs l) b (unB d) m.toNat n.toNat k
def boC (N : Nat) (l : List D) (b : Bool) (d : List D) (m n : Int) (k : Bool) : Bool := isDs l && (isDg d && (decide (1 ≤ m) && (decide (m ≤ n) && (decide (n ≤ (N : Int)) && decide (n ≤ 1073741824)))))
def boD1 (l : List D) (b : Bool) (d : List D) (m n : Int) (k : Bool) : List D := bytesD (boT l b d m n k).1
def boD2 (l : List D) (b : Bool) (d : List D) (m n : Int) (k : Bool) : List D := bytesD (boT l b d m n k).2.1
def boL (l : List D) (b : Bool) (d : List D) (m n : Int) (k : Bool) : List D := dgs (boT l b d m n k).2.2.1
def boB (l : List D) (b : Bool) (d : List D) (m n : Int) (k : Bool) : Bool := (boT l b d m n k).2.2.2
def xBoth (N : Nat) : List AV → Objs → Option (Bool × AV × Objs)
  | [.ptr 0 [] 61, .d 35 (.agg d), .i .i64 m, .i .i64 n, .b k], [some (.box 61 (.d 61 (.agg [.slice c l, .bool b])))] => some (boC N l b d m n k, .tuple [.d 35 (.agg (boD1 l b d m n k)), .d 35 (.agg (boD2 l b d m n k))], [some (.box 61 (.d 61 (.agg [.slice .any (boL l b d m n k), .bool (boB l b d m n k)])))])
  | _, _ => none
def paC1 (l : List D) : Bool := decide (l.length = 1)
def paC2 (N : Nat) (l : List D) (n : Int) : Bool := lvC N l && (decide (2 ≤ l.length) && (decide (0 ≤ n) && decide (n < (l.length : Int))))
def xPath1 : List AV → Objs → Option (Bool × AV × Objs)
  | [.sl 39 _ l, .i .i64 n], [] => some (paC1 l, .snil, [])
  | _, _ => none
def xPath2 (N : Nat) : List AV → Objs → Option (Bool × AV × Objs)
  | [.sl 39 _ l, .i .i64 n], [] => some (paC2 N l n, .ref 35 0, [some (.arr 35 (dgs (pathT (lvs l) n.toNat)) false)])
  | _, _ => none
def grC1 (l : List D) (m : Int) (k : Bool) : Bool := k && decide (m = (l.length : Int))
def grC2 (N : Nat) (l : List D) (m : Int) (k : Bool) : Bool := lvC N l && (!(k && decide (m = (l.length : Int))) && (decide (1 ≤ m) && decide (m ≤ (l.length : Int))))
def xGrown1 : List AV → Objs → Option (Bool × AV × Objs)
  | [.sl 39 _ l, .i .i64 m, .b k], [] => some (grC1 l m k, .snil, [])
  | _, _ => none
def xGrown2 (N : Nat) : List AV → Objs → Option (Bool × AV × Objs)
  | [.sl 39 _ l, .i .i64 m, .b k], [] => some (grC2 N l m k, .ref 35 0, [some (.arr 35 (dgs (grownT (lvs l) m.toNat k)) false)])
  | _, _ => none
def spClip : List AV → Option (Bool × AV)
  | [.sl 35 _ l] => some (true, .sl 35 .any l)
  | _ => none
/-- a call that does not come about -/
def xNo : List AV → Objs → Option (Bool × AV × Objs)
  | _, [] => some (false, .snil, [])
  | _, _ => none
theorem w26 (lab : Lab) (n : Int) : evF Γ (runS []) lab 26 [.i .i64 n] [] =
  lab (todoAt Γ 26 2) ⟨[(0, .i .i64 n), (3, .i .i64 1)], []⟩ := by kernel_rfl
theorem w26_2a (lab : Lab) (n1 : Int) (n2 : Int) : evL Γ (runS []) lab 26 2 ⟨[(0, .i .i64 n1), (3, .i .i64 n2)], []⟩ =
  bif decide ((shlV .i64 n2 1) < n1) then (lab (todoAt Γ 26 2) ⟨[(0, .i .i64 n1), (3, .i .i64 (shlV .i64 n2 1))], []⟩) else (some (.i .i64 n2, [])) := by kernel_rfl
theorem w23 (lab : Lab) (n : Int) : evF Γ (runS []) lab 23 [.i .i64 n] [] =
  lab (todoAt Γ 23 2) ⟨[(0, .i .i64 n), (3, .i .i64 1)], []⟩ := by kernel_rfl
theorem w23_2a (lab : Lab) (n1 : Int) (n2 : Int) : evL Γ (runS []) lab 23 2 ⟨[(0, .i .i64 n1), (3, .i .i64 n2)], []⟩ =
  bif decide ((IntKind.wrap .i64 (n2 * 2)) < n1) then (lab (todoAt Γ 23 2) ⟨[(0, .i .i64 n1), (3, .i .i64 (IntKind.wrap .i64 (n2 * 2)))], []⟩) else (some (.i .i64 n2, [])) := by kernel_rfl
def W25 : Handle := runS [⟨24, dat spSha⟩]
theorem w25 (lab : Lab) (b : List D) : evF Γ W25 lab 25 [.sl 5 .any b] [] =
  bif bsC [D.slice .ex [D.int .u8 0], D.slice .any b] then (some (.d 35 (D.agg ((shaL [D.slice .ex [D.int .u8 0], D.slice .any b]))), [])) else none := by kernel_rfl
def W27 : Handle := runS [⟨24, dat spSha⟩]
theorem w27 (lab : Lab) (a : List D) (b : List D) : evF Γ W27 lab 27 [.d 35 (D.agg a), .d 35 (D.agg b)] [] =
  bif bsC [D.slice .ex [D.int .u8 1], D.slice .ex a, D.slice .ex b] then (some (.d 35 (D.agg ((shaL [D.slice .ex [D.int .u8 1], D.slice .ex a, D.slice .ex b]))), [])) else none := by kernel_rfl
def W14 (N : Nat) : Handle := runS [⟨24, dat spSha⟩, ⟨25, dat spLeaf⟩, ⟨26, dat spFirst⟩, ⟨14, dat (spRoot N)⟩, ⟨27, dat spNode⟩]
theorem w14 (N : Nat) (lab : Lab) (l : List D) : evF Γ (W14 N) lab 14 [.sl 39 .any l] [] =
  bif ((l.length : Int)) == 0 then (some (.d 35 (D.agg ((bytesD (shaT [])))), [])) else (bif ((l.length : Int)) == 1 then (idx l 0 fun y1 => dSlice y1 fun c2 l3 => bif lfC l3 then (some (.d 35 (D.agg ((bytesD (leafT (unB l3))))), [])) else none) else (bif spC ((l.length : Int)) then (bif decide ((0:Int) ≤ ((splI ((l.length : Int))))) && decide (((splI ((l.length : Int)))) ≤ (l.length : Int)) then (bif lvC N (List.take ((Int.toNat ((splI ((l.length : Int))))) - 0) (List.drop 0 l)) then (bif decide ((0:Int) ≤ ((splI ((l.length : Int))))) && decide (((splI ((l.length : Int)))) ≤ (l.length : Int)) then (bif lvC N (List.take ((l.length) - (Int.toNat ((splI ((l.length : Int)))))) (List.drop (Int.toNat ((splI ((l.length : Int))))) l)) then (bif isDg ((bytesD (rootT (lvs (List.take ((Int.toNat ((splI ((l.length : Int))))) - 0) (List.drop 0 l)))))) && isDg ((bytesD (rootT (lvs (List.take ((l.length) - (Int.toNat ((splI ((l.length : Int)))))) (List.drop (Int.toNat ((splI ((l.length : Int))))) l)))))) then (some (.d 35 (D.agg ((bytesD (nodeT (unB ((bytesD (rootT (lvs (List.take ((Int.toNat ((splI ((l.length : Int))))) - 0) (List.drop 0 l))))))) (unB ((bytesD (rootT (lvs (List.take ((l.length) - (Int.toNat ((splI ((l.length : Int)))))) (List.drop (Int.toNat ((splI ((l.length : Int))))) l))))))))))), [])) else none) else none) else none) else none) else none) else none)) := by kernel_rfl
theorem w40 (lab : Lab) (c : Cp) (pl : List D) (bad : Bool) : evF Γ (runS []) lab 40 [.ptr 0 [] 61] [some (.box 61 (.d 61 (D.agg [D.slice c pl, D.bool bad])))] =
  bif ((pl.length : Int)) == 0 then (some (.d 35 (D.agg [D.int .u8 0, D.int .u8 0, D.int .u8 0, D.int .u8 0, D.int .u8 0, D.int .u8 0, D.int .u8 0, D.int .u8 0, D.int .u8 0, D.int .u8 0, D.int .u8 0, D.int .u8 0, D.int .u8 0, D.int .u8 0, D.int .u8 0, D.int .u8 0, D.int .u8 0, D.int .u8 0, D.int .u8 0, D.int .u8 0, D.int .u8 0, D.int .u8 0, D.int .u8 0, D.int .u8 0, D.int .u8 0, D.int .u8 0, D.int .u8 0, D.int .u8 0, D.int .u8 0, D.int .u8 0, D.int .u8 0, D.int .u8 0]), [some (.box 61 (.d 61 (D.agg [D.slice c pl, D.bool true])))])) else (idx pl (IntKind.wrap .i64 (((pl.length : Int)) - 1)) fun y1 => dAgg y1 fun y2 => bif decide ((0:Int) ≤ (IntKind.wrap .i64 (((pl.length : Int)) - 1))) && decide ((IntKind.wrap .i64 (((pl.length : Int)) - 1)) ≤ (pl.length : Int)) then (some (.d 35 (D.agg y2), [some (.box 61 (.d 61 (D.agg [D.slice .any (List.take ((Int.toNat (IntKind.wrap .i64 (((pl.length : Int)) - 1))) - 0) (List.drop 0 pl)), D.bool bad])))])) else none) := by kernel_rfl
def W32 (N : Nat) : Handle := runS [⟨26, dat spFirst⟩, ⟨40, xTake⟩, ⟨32, xClimb N⟩, ⟨27, dat spNode⟩]
theorem w32 (N : Nat) (lab : Lab) (d : List D) (n : Int) (m : Int) (c : Cp) (pl : List D) (bad : Bool) : evF Γ (W32 N) lab 32 [.ptr 0 [] 61, .d 35 (D.agg d), .i .i64 n, .i .i64 m] [some (.box 61 (.d 61 (D.agg [D.slice c pl, D.bool bad])))] =
  bif m == 1 then (some (.d 35 (D.agg d), [some (.box 61 (.d 61 (D.agg [D.slice c pl, D.bool bad])))])) else (bif bad then (some (.d 35 (D.agg d), [some (.box 61 (.d 61 (D.agg [D.slice c pl, D.bool bad])))])) else (bif spC m then (bif isDs pl then (bif decide (n < ((splI m))) then (bif clC N ((tkL pl)) (tkB pl bad) d n ((splI m)) then (bif isDg ((clD ((tkL pl)) (tkB pl bad) d n ((splI m)))) && isDg ((tkD pl)) then (some (.d 35 (D.agg ((bytesD (nodeT (unB ((clD ((tkL pl)) (tkB pl bad) d n ((splI m))))) (unB ((tkD pl))))))), [some (.box 61 (.d 61 (D.agg [D.slice .any ((clL ((tkL pl)) (tkB pl bad) d n ((splI m)))), D.bool (clB ((tkL pl)) (tkB pl bad) d n ((splI m)))])))])) else none) else none) else (bif clC N ((tkL pl)) (tkB pl bad) d (IntKind.wrap .i64 (n - ((splI m)))) (IntKind.wrap .i64 (m - ((splI m)))) then (bif isDg ((tkD pl)) && isDg ((clD ((tkL pl)) (tkB pl bad) d (IntKind.wrap .i64 (n - ((splI m)))) (IntKind.wrap .i64 (m - ((splI m)))))) then (some (.d 35 (D.agg ((bytesD (nodeT (unB ((tkD pl))) (unB ((clD ((tkL pl)) (tkB pl bad) d (IntKind.wrap .i64 (n - ((splI m)))) (IntKind.wrap .i64 (m - ((splI m))))))))))), [some (.box 61 (.d 61 (D.agg [D.slice .any ((clL ((tkL pl)) (tkB pl bad) d (IntKind.wrap .i64 (n - ((splI m)))) (IntKind.wrap .i64 (m - ((splI m)))))), D.bool (clB ((tkL pl)) (tkB pl bad) d (IntKind.wrap .i64 (n - ((splI m)))) (IntKind.wrap .i64 (m - ((splI m)))))])))])) else none) else none)) else none) else none)) := by kernel_rfl
def W33 (N : Nat) : Handle := runS [⟨26, dat spFirst⟩, ⟨40, xTake⟩, ⟨33, xBoth N⟩, ⟨27, dat spNode⟩]
theorem w33 (N : Nat) (lab : Lab) (d : List D) (m : Int) (n : Int) (k : Bool) (c : Cp) (pl : List D) (bad : Bool) : evF Γ (W33 N) lab 33 [.ptr 0 [] 61, .d 35 (D.agg d), .i .i64 m, .i .i64 n, .b k] [some (.box 61 (.d 61 (D.agg [D.slice c pl, D.bool bad])))] =
  bif bad then (some (.tuple [.d 35 (D.agg d), .d 35 (D.agg d)], [some (.box 61 (.d 61 (D.agg [D.slice c pl, D.bool bad])))])) else (bif m == n then (bif !k then (bif isDs pl then (some (.tuple [.d 35 (D.agg ((tkD pl))), .d 35 (D.agg ((tkD pl)))], [some (.box 61 (.d 61 (D.agg [D.slice .any ((tkL pl)), D.bool (tkB pl bad)])))])) else none) else (some (.tuple [.d 35 (D.agg d), .d 35 (D.agg d)], [some (.box 61 (.d 61 (D.agg [D.slice c pl, D.bool bad])))]))) else (bif spC n then (bif isDs pl then (bif decide (m ≤ ((splI n))) then (bif boC N ((tkL pl)) (tkB pl bad) d m ((splI n)) k then (bif isDg ((boD2 ((tkL pl)) (tkB pl bad) d m ((splI n)) k)) && isDg ((tkD pl)) then (some (.tuple [.d 35 (D.agg ((boD1 ((tkL pl)) (tkB pl bad) d m ((splI n)) k))), .d 35 (D.agg ((bytesD (nodeT (unB ((boD2 ((tkL pl)) (tkB pl bad) d m ((splI n)) k))) (unB ((tkD pl)))))))], [some (.box 61 (.d 61 (D.agg [D.slice .any ((boL ((tkL pl)) (tkB pl bad) d m ((splI n)) k)), D.bool (boB ((tkL pl)) (tkB pl bad) d m ((splI n)) k)])))])) else none) else none) else (bif boC N ((tkL pl)) (tkB pl bad) d (IntKind.wrap .i64 (m - ((splI n)))) (IntKind.wrap .i64 (n - ((splI n)))) false then (bif isDg ((tkD pl)) && isDg ((boD1 ((tkL pl)) (tkB pl bad) d (IntKind.wrap .i64 (m - ((splI n)))) (IntKind.wrap .i64 (n - ((splI n)))) false)) then (bif isDg ((tkD pl)) && isDg ((boD2 ((tkL pl)) (tkB pl bad) d (IntKind.wrap .i64 (m - ((splI n)))) (IntKind.wrap .i64 (n - ((splI n)))) false)) then (some (.tuple [.d 35 (D.agg ((bytesD (nodeT (unB ((tkD pl))) (unB ((boD1 ((tkL pl)) (tkB pl bad) d (IntKind.wrap .i64 (m - ((splI n)))) (IntKind.wrap .i64 (n - ((splI n)))) false))))))), .d 35 (D.agg ((bytesD (nodeT (unB ((tkD pl))) (unB ((boD2 ((tkL pl)) (tkB pl bad) d (IntKind.wrap .i64 (m - ((splI n)))) (IntKind.wrap .i64 (n - ((splI n)))) false)))))))], [some (.box 61 (.d 61 (D.agg [D.slice .any ((boL ((tkL pl)) (tkB pl bad) d (IntKind.wrap .i64 (m - ((splI n)))) (IntKind.wrap .i64 (n - ((splI n)))) false)), D.bool (boB ((tkL pl)) (tkB pl bad) d (IntKind.wrap .i64 (m - ((splI n)))) (IntKind.wrap .i64 (n - ((splI n)))) false)])))])) else none) else none) else none)) else none) else none)) := by kernel_rfl
theorem w20 (lab : Lab) (l : List D) : evF Γ (runS []) lab 20 [.sl 35 .any l] [] =
  bif decide ((0:Int) ≤ ((l.length : Int))) && decide (((l.length : Int)) ≤ (l.length : Int)) then (bif decide ((0:Int) ≤ ((l.length : Int))) && decide (((l.length : Int)) ≤ (Int.toNat ((l.length : Int)) : Int)) then (bif Nat.beq (Int.toNat ((l.length : Int))) (Int.toNat ((l.length : Int))) then (some (.sl 35 .cl (List.take ((Int.toNat ((l.length : Int))) - 0) (List.drop 0 l)), [])) else none) else none) else none := by kernel_rfl
def W17 (N : Nat) : Handle := runS [⟨25, dat spLeaf⟩, ⟨32, xClimb N⟩]
theorem w17 (N : Nat) (lab : Lab) (r : List D) (b : List D) (n : Int) (m : Int) (l : List D) : evF Γ (W17 N) lab 17 [.d 35 (D.agg r), .sl 5 .any b, .i .i64 n, .i .i64 m, .sl 35 .any l] [] =
  bif decide (n < 0) then (some (.b false, [])) else (bif decide (n ≥ m) then (some (.b false, [])) else (bif lfC b then (bif clC N l false ((bytesD (leafT (unB b)))) n m then (bif !(clB l false ((bytesD (leafT (unB b)))) n m) then (bif ((((clL l false ((bytesD (leafT (unB b)))) n m)).length : Int)) == 0 then (some (.b (eqD (D.agg ((clD l false ((bytesD (leafT (unB b)))) n m))) (D.agg r)), [])) else (some (.b false, []))) else (some (.b false, []))) else none) else none)) := by kernel_rfl
def W17n (N : Nat) : Handle := runS [⟨25, dat spLeaf⟩, ⟨32, xClimb N⟩]
theorem n17 (N : Nat) (lab : Lab) (r : List D) (b : List D) (n : Int) (m : Int) : evF Γ (W17n N) lab 17 [.d 35 (D.agg r), .sl 5 .any b, .i .i64 n, .i .i64 m, .snil] [] =
  bif decide (n < 0) then (some (.b false, [])) else (bif decide (n ≥ m) then (some (.b false, [])) else (bif lfC b then (bif clC N [] false ((bytesD (leafT (unB b)))) n m then (bif !(clB [] false ((bytesD (leafT (unB b)))) n m) then (bif ((((clL [] false ((bytesD (leafT (unB b)))) n m)).length : Int)) == 0 then (some (.b (eqD (D.agg ((clD [] false ((bytesD (leafT (unB b)))) n m))) (D.agg r)), [])) else (some (.b false, []))) else (some (.b false, []))) else none) else none)) := by kernel_rfl
def W18 (N : Nat) : Handle := runS [⟨33, xBoth N⟩]
theorem w18 (N : Nat) (lab : Lab) (o : List D) (m : Int) (r : List D) (n : Int) (l : List D) : evF Γ (W18 N) lab 18 [.d 35 (D.agg o), .i .i64 m, .d 35 (D.agg r), .i .i64 n, .sl 35 .any l] [] =
  bif decide (m < 1) then (some (.b false, [])) else (bif decide (m > n) then (some (.b false, [])) else (bif boC N l false o m n true then (bif !(boB l false o m n true) then (bif ((((boL l false o m n true)).length : Int)) == 0 then (bif eqD (D.agg ((boD1 l false o m n true))) (D.agg o) then (some (.b (eqD (D.agg ((boD2 l false o m n true))) (D.agg r)), [])) else (some (.b false, []))) else (some (.b false, []))) else (some (.b false, []))) else none)) := by kernel_rfl
def W21z (N : Nat) : Handle := runS [⟨26, dat spFirst⟩, ⟨14, dat (spRoot N)⟩, ⟨21, xNo⟩]
theorem z21 (N : Nat) (lab : Lab) (l : List D) (n : Int) : evF Γ (W21z N) lab 21 [.sl 39 .any l, .i .i64 n] [] =
  bif ((l.length : Int)) == 1 then (some (.snil, [])) else (bif spC ((l.length : Int)) then (bif decide (n < ((splI ((l.length : Int))))) then (bif decide ((0:Int) ≤ ((splI ((l.length : Int))))) && decide (((splI ((l.length : Int)))) ≤ (l.length : Int)) then (bif false then (bif decide ((0:Int) ≤ ((splI ((l.length : Int))))) && decide (((splI ((l.length : Int)))) ≤ (l.length : Int)) then (bif lvC N (List.take ((l.length) - (Int.toNat ((splI ((l.length : Int)))))) (List.drop (Int.toNat ((splI ((l.length : Int))))) l)) then (some (.ref 35 0, [some (.arr 35 [D.agg ((bytesD (rootT (lvs (List.take ((l.length) - (Int.toNat ((splI ((l.length : Int)))))) (List.drop (Int.toNat ((splI ((l.length : Int))))) l))))))] false)])) else none) else none) else none) else none) else (bif decide ((0:Int) ≤ ((splI ((l.length : Int))))) && decide (((splI ((l.length : Int)))) ≤ (l.length : Int)) then (bif false then (bif decide ((0:Int) ≤ ((splI ((l.length : Int))))) && decide (((splI ((l.length : Int)))) ≤ (l.length : Int)) then (bif lvC N (List.take ((Int.toNat ((splI ((l.length : Int))))) - 0) (List.drop 0 l)) then (some (.ref 35 0, [some (.arr 35 [D.agg ((bytesD (rootT (lvs (List.take ((Int.toNat ((splI ((l.length : Int))))) - 0) (List.drop 0 l))))))] false)])) else none) else none) else none) else none)) else none) := by kernel_rfl
def W22z (N : Nat) : Handle := runS [⟨26, dat spFirst⟩, ⟨14, dat (spRoot (N + 1))⟩, ⟨22, xNo⟩]
theorem z22 (N : Nat) (lab : Lab) (l : List D) (m : Int) (k : Bool) : evF Γ (W22z N) lab 22 [.sl 39 .any l, .i .i64 m, .b k] [] =
  bif m == ((l.length : Int)) then (bif k then (some (.snil, [])) else (bif lvC (N + 1) l then (some (.ref 35 0, [some (.arr 35 [D.agg ((bytesD (rootT (lvs l))))] false)])) else none)) else (bif spC ((l.length : Int)) then (bif decide (m ≤ ((splI ((l.length : Int))))) then (bif decide ((0:Int) ≤ ((splI ((l.length : Int))))) && decide (((splI ((l.length : Int)))) ≤ (l.length : Int)) then (bif false then (bif decide ((0:Int) ≤ ((splI ((l.length : Int))))) && decide (((splI ((l.length : Int)))) ≤ (l.length : Int)) then (bif lvC (N + 1) (List.take ((l.length) - (Int.toNat ((splI ((l.length : Int)))))) (List.drop (Int.toNat ((splI ((l.length : Int))))) l)) then (some (.ref 35 0, [some (.arr 35 [D.agg ((bytesD (rootT (lvs (List.take ((l.length) - (Int.toNat ((splI ((l.length : Int)))))) (List.drop (Int.toNat ((splI ((l.length : Int))))) l))))))] false)])) else none) else none) else none) else none) else (bif decide ((0:Int) ≤ ((splI ((l.length : Int))))) && decide (((splI ((l.length : Int)))) ≤ (l.length : Int)) then (bif false then (bif decide ((0:Int) ≤ ((splI ((l.length : Int))))) && decide (((splI ((l.length : Int)))) ≤ (l.length : Int)) then (bif lvC (N + 1) (List.take ((Int.toNat ((splI ((l.length : Int))))) - 0) (List.drop 0 l)) then (some (.ref 35 0, [some (.arr 35 [D.agg ((bytesD (rootT (lvs (List.take ((Int.toNat ((splI ((l.length : Int))))) - 0) (List.drop 0 l))))))] false)])) else none) else none) else none) else none)) else none) := by kernel_rfl
def W21a (N : Nat) : Handle := runS [⟨26, dat spFirst⟩, ⟨14, dat (spRoot N)⟩, ⟨21, xPath1⟩]
theorem a21 (N : Nat) (lab : Lab) (l : List D) (n : Int) : evF Γ (W21a N) lab 21 [.sl 39 .any l, .i .i64 n] [] =
  bif ((l.length : Int)) == 1 then (some (.snil, [])) else (bif spC ((l.length : Int)) then (bif decide (n < ((splI ((l.length : Int))))) then (bif decide ((0:Int) ≤ ((splI ((l.length : Int))))) && decide (((splI ((l.length : Int)))) ≤ (l.length : Int)) then (bif paC1 (List.take ((Int.toNat ((splI ((l.length : Int))))) - 0) (List.drop 0 l)) then (bif decide ((0:Int) ≤ ((splI ((l.length : Int))))) && decide (((splI ((l.length : Int)))) ≤ (l.length : Int)) then (bif lvC N (List.take ((l.length) - (Int.toNat ((splI ((l.length : Int)))))) (List.drop (Int.toNat ((splI ((l.length : Int))))) l)) then (some (.ref 35 0, [some (.arr 35 [D.agg ((bytesD (rootT (lvs (List.take ((l.length) - (Int.toNat ((splI ((l.length : Int)))))) (List.drop (Int.toNat ((splI ((l.length : Int))))) l))))))] false)])) else none) else none) else none) else none) else (bif decide ((0:Int) ≤ ((splI ((l.length : Int))))) && decide (((splI ((l.length : Int)))) ≤ (l.length : Int)) then (bif paC1 (List.take ((l.length) - (Int.toNat ((splI ((l.length : Int)))))) (List.drop (Int.toNat ((splI ((l.length : Int))))) l)) then (bif decide ((0:Int) ≤ ((splI ((l.length : Int))))) && decide (((splI ((l.length : Int)))) ≤ (l.length : Int)) then (bif lvC N (List.take ((Int.toNat ((splI ((l.length : Int))))) - 0) (List.drop 0 l)) then (some (.ref 35 0, [some (.arr 35 [D.agg ((bytesD (rootT (lvs (List.take ((Int.toNat ((splI ((l.length : Int))))) - 0) (List.drop 0 l))))))] false)])) else none) else none) else none) else none)) else none) := by kernel_rfl
def W21b (N : Nat) : Handle := runS [⟨26, dat spFirst⟩, ⟨14, dat (spRoot N)⟩, ⟨21, xPath2 N⟩]
theorem b21 (N : Nat) (lab : Lab) (l : List D) (n : Int) : evF Γ (W21b N) lab 21 [.sl 39 .any l, .i .i64 n] [] =
  bif ((l.length : Int)) == 1 then (some (.snil, [])) else (bif spC ((l.length : Int)) then (bif decide (n < ((splI ((l.length : Int))))) then (bif decide ((0:Int) ≤ ((splI ((l.length : Int))))) && decide (((splI ((l.length : Int)))) ≤ (l.length : Int)) then (bif paC2 N (List.take ((Int.toNat ((splI ((l.length : Int))))) - 0) (List.drop 0 l)) n then (bif decide ((0:Int) ≤ ((splI ((l.length : Int))))) && decide (((splI ((l.length : Int)))) ≤ (l.length : Int)) then (bif lvC N (List.take ((l.length) - (Int.toNat ((splI ((l.length : Int)))))) (List.drop (Int.toNat ((splI ((l.length : Int))))) l)) then (bif roomB (((dgs (pathT (lvs (List.take ((Int.toNat ((splI ((l.length : Int))))) - 0) (List.drop 0 l))) (Int.toNat n)))).length + 1) 32 then (some (.ref 35 0, [some (.arr 35 (((dgs (pathT (lvs (List.take ((Int.toNat ((splI ((l.length : Int))))) - 0) (List.drop 0 l))) (Int.toNat n)))) ++ [D.agg ((bytesD (rootT (lvs (List.take ((l.length) - (Int.toNat ((splI ((l.length : Int)))))) (List.drop (Int.toNat ((splI ((l.length : Int))))) l))))))]) false)])) else none) else none) else none) else none) else none) else (bif decide ((0:Int) ≤ ((splI ((l.length : Int))))) && decide (((splI ((l.length : Int)))) ≤ (l.length : Int)) then (bif paC2 N (List.take ((l.length) - (Int.toNat ((splI ((l.length : Int)))))) (List.drop (Int.toNat ((splI ((l.length : Int))))) l)) (IntKind.wrap .i64 (n - ((splI ((l.length : Int)))))) then (bif decide ((0:Int) ≤ ((splI ((l.length : Int))))) && decide (((splI ((l.length : Int)))) ≤ (l.length : Int)) then (bif lvC N (List.take ((Int.toNat ((splI ((l.length : Int))))) - 0) (List.drop 0 l)) then (bif roomB (((dgs (pathT (lvs (List.take ((l.length) - (Int.toNat ((splI ((l.length : Int)))))) (List.drop (Int.toNat ((splI ((l.length : Int))))) l))) (Int.toNat (IntKind.wrap .i64 (n - ((splI ((l.length : Int)))))))))).length + 1) 32 then (some (.ref 35 0, [some (.arr 35 (((dgs (pathT (lvs (List.take ((l.length) - (Int.toNat ((splI ((l.length : Int)))))) (List.drop (Int.toNat ((splI ((l.length : Int))))) l))) (Int.toNat (IntKind.wrap .i64 (n - ((splI ((l.length : Int)))))))))) ++ [D.agg ((bytesD (rootT (lvs (List.take ((Int.toNat ((splI ((l.length : Int))))) - 0) (List.drop 0 l))))))]) false)])) else none) else none) else none) else none) else none)) else none) := by kernel_rfl
def W22a (N : Nat) : Handle := runS [⟨26, dat spFirst⟩, ⟨14, dat (spRoot (N + 1))⟩, ⟨22, xGrown1⟩]
theorem a22 (N : Nat) (lab : Lab) (l : List D) (m : Int) (k : Bool) : evF Γ (W22a N) lab 22 [.sl 39 .any l, .i .i64 m, .b k] [] =
  bif m == ((l.length : Int)) then (bif k then (some (.snil, [])) else (bif lvC (N + 1) l then (some (.ref 35 0, [some (.arr 35 [D.agg ((bytesD (rootT (lvs l))))] false)])) else none)) else (bif spC ((l.length : Int)) then (bif decide (m ≤ ((splI ((l.length : Int))))) then (bif decide ((0:Int) ≤ ((splI ((l.length : Int))))) && decide (((splI ((l.length : Int)))) ≤ (l.length : Int)) then (bif grC1 (List.take ((Int.toNat ((splI ((l.length : Int))))) - 0) (List.drop 0 l)) m k then (bif decide ((0:Int) ≤ ((splI ((l.length : Int))))) && decide (((splI ((l.length : Int)))) ≤ (l.length : Int)) then (bif lvC (N + 1) (List.take ((l.length) - (Int.toNat ((splI ((l.length : Int)))))) (List.drop (Int.toNat ((splI ((l.length : Int))))) l)) then (some (.ref 35 0, [some (.arr 35 [D.agg ((bytesD (rootT (lvs (List.take ((l.length) - (Int.toNat ((splI ((l.length : Int)))))) (List.drop (Int.toNat ((splI ((l.length : Int))))) l))))))] false)])) else none) else none) else none) else none) else (bif decide ((0:Int) ≤ ((splI ((l.length : Int))))) && decide (((splI ((l.length : Int)))) ≤ (l.length : Int)) then (bif grC1 (List.take ((l.length) - (Int.toNat ((splI ((l.length : Int)))))) (List.drop (Int.toNat ((splI ((l.length : Int))))) l)) (IntKind.wrap .i64 (m - ((splI ((l.length : Int)))))) false then (bif decide ((0:Int) ≤ ((splI ((l.length : Int))))) && decide (((splI ((l.length : Int)))) ≤ (l.length : Int)) then (bif lvC (N + 1) (List.take ((Int.toNat ((splI ((l.length : Int))))) - 0) (List.drop 0 l)) then (some (.ref 35 0, [some (.arr 35 [D.agg ((bytesD (rootT (lvs (List.take ((Int.toNat ((splI ((l.length : Int))))) - 0) (List.drop 0 l))))))] false)])) else none) else none) else none) else none)) else none) := by kernel_rfl
def W22b (N : Nat) : Handle := runS [⟨26, dat spFirst⟩, ⟨14, dat (spRoot (N + 1))⟩, ⟨22, xGrown2 N⟩]
theorem b22 (N : Nat) (lab : Lab) (l : List D) (m : Int) (k : Bool) : evF Γ (W22b N) lab 22 [.sl 39 .any l, .i .i64 m, .b k] [] =
  bif m == ((l.length : Int)) then (bif k then (some (.snil, [])) else (bif lvC (N + 1) l then (some (.ref 35 0, [some (.arr 35 [D.agg ((bytesD (rootT (lvs l))))] false)])) else none)) else (bif spC ((l.length : Int)) then (bif decide (m ≤ ((splI ((l.length : Int))))) then (bif decide ((0:Int) ≤ ((splI ((l.length : Int))))) && decide (((splI ((l.length : Int)))) ≤ (l.length : Int)) then (bif grC2 N (List.take ((Int.toNat ((splI ((l.length : Int))))) - 0) (List.drop 0 l)) m k then (bif decide ((0:Int) ≤ ((splI ((l.length : Int))))) && decide (((splI ((l.length : Int)))) ≤ (l.length : Int)) then (bif lvC (N + 1) (List.take ((l.length) - (Int.toNat ((splI ((l.length : Int)))))) (List.drop (Int.toNat ((splI ((l.length : Int))))) l)) then (bif roomB (((dgs (grownT (lvs (List.take ((Int.toNat ((splI ((l.length : Int))))) - 0) (List.drop 0 l))) (Int.toNat m) k))).length + 1) 32 then (some (.ref 35 0, [some (.arr 35 (((dgs (grownT (lvs (List.take ((Int.toNat ((splI ((l.length : Int))))) - 0) (List.drop 0 l))) (Int.toNat m) k))) ++ [D.agg ((bytesD (rootT (lvs (List.take ((l.length) - (Int.toNat ((splI ((l.length : Int)))))) (List.drop (Int.toNat ((splI ((l.length : Int))))) l))))))]) false)])) else none) else none) else none) else none) else none) else (bif decide ((0:Int) ≤ ((splI ((l.length : Int))))) && decide (((splI ((l.length : Int)))) ≤ (l.length : Int)) then (bif grC2 N (List.take ((l.length) - (Int.toNat ((splI ((l.length : Int)))))) (List.drop (Int.toNat ((splI ((l.length : Int))))) l)) (IntKind.wrap .i64 (m - ((splI ((l.length : Int)))))) false then (bif decide ((0:Int) ≤ ((splI ((l.length : Int))))) && decide (((splI ((l.length : Int)))) ≤ (l.length : Int)) then (bif lvC (N + 1) (List.take ((Int.toNat ((splI ((l.length : Int))))) - 0) (List.drop 0 l)) then (bif roomB (((dgs (grownT (lvs (List.take ((l.length) - (Int.toNat ((splI ((l.length : Int)))))) (List.drop (Int.toNat ((splI ((l.length : Int))))) l))) (Int.toNat (IntKind.wrap .i64 (m - ((splI ((l.length : Int))))))) false))).length + 1) 32 then (some (.ref 35 0, [some (.arr 35 (((dgs (grownT (lvs (List.take ((l.length) - (Int.toNat ((splI ((l.length : Int)))))) (List.drop (Int.toNat ((splI ((l.length : Int))))) l))) (Int.toNat (IntKind.wrap .i64 (m - ((splI ((l.length : Int))))))) false))) ++ [D.agg ((bytesD (rootT (lvs (List.take ((Int.toNat ((splI ((l.length : Int))))) - 0) (List.drop 0 l))))))]) false)])) else none) else none) else none) else none) else none)) else none) := by kernel_rfl
def W8a : Handle := runS [⟨20, dat spClip⟩, ⟨21, xPath1⟩]
theorem a8 (lab : Lab) (l : List D) (n : Int) : evF Γ W8a lab 8 [.sl 39 .any l, .i .i64 n] [] =
  bif decide (n < 0) then (some (.tuple [.snil, .i .i64 1], [])) else (bif decide (n ≥ ((l.length : Int))) then (some (.tuple [.snil, .i .i64 1], [])) else (bif paC1 l then (some (.tuple [.sl 35 .any ([]), .i .i64 0], [])) else none)) := by kernel_rfl
def W8b (N : Nat) : Handle := runS [⟨20, dat spClip⟩, ⟨21, xPath2 N⟩]
theorem b8 (N : Nat) (lab : Lab) (l : List D) (n : Int) : evF Γ (W8b N) lab 8 [.sl 39 .any l, .i .i64 n] [] =
  bif decide (n < 0) then (some (.tuple [.snil, .i .i64 1], [])) else (bif decide (n ≥ ((l.length : Int))) then (some (.tuple [.snil, .i .i64 1], [])) else (bif paC2 N l n then (some (.tuple [.sl 35 .any (((dgs (pathT (lvs l) (Int.toNat n))))), .i .i64 0], [])) else none)) := by kernel_rfl
def W9a : Handle := runS [⟨20, dat spClip⟩, ⟨22, xGrown1⟩]
theorem a9 (lab : Lab) (l : List D) (n : Int) : evF Γ W9a lab 9 [.sl 39 .any l, .i .i64 n] [] =
  bif decide (n < 1) then (some (.tuple [.snil, .i .i64 1], [])) else (bif decide (n > ((l.length : Int))) then (some (.tuple [.snil, .i .i64 1], [])) else (bif grC1 l n true then (some (.tuple [.sl 35 .any ([]), .i .i64 0], [])) else none)) := by kernel_rfl
def W9b (N : Nat) : Handle := runS [⟨20, dat spClip⟩, ⟨22, xGrown2 N⟩]
theorem b9 (N : Nat) (lab : Lab) (l : List D) (n : Int) : evF Γ (W9b N) lab 9 [.sl 39 .any l, .i .i64 n] [] =
  bif decide (n < 1) then (some (.tuple [.snil, .i .i64 1], [])) else (bif decide (n > ((l.length : Int))) then (some (.tuple [.snil, .i .i64 1], [])) else (bif grC2 N l n true then (some (.tuple [.sl 35 .any (((dgs (grownT (lvs l) (Int.toNat n) true)))), .i .i64 0], [])) else none)) := by kernel_rfl
end Go.Proofs.YtafmogdnhpnbiaaDoor.V

/- Proofs of leaves: contracts: the first part, leaves, nodes, roots, the walker. -/
namespace Go.Proofs.YtafmogdnhpnbiaaDoor.V
open Go
set_option maxRecDepth 100000
set_option linter.unusedVariables false
set_option linter.unusedSimpArgs false
/-! ### the first part -/
theorem shl1 {k : Nat} (h : k ≤ 2147483648) : shlV .i64 (k : Int) 1 = ((k * 2 : Nat) : Int) := by
  show IntKind.wrap .i64 ((k : Int) * 2) = _
  rw [wrapI (by omega) (by omega)]; omega
theorem g26 (n : Nat) (hn : n ≤ 1073741824) : ∀ (f k : Nat), 1 ≤ k → k ≤ 1073741824 → n ≤ k + f → Goes Γ (runS []) 26 2 ⟨[(0, .i .i64 (n : Int)), (3, .i .i64 (k : Int))], []⟩ (.i .i64 (splF f k n : Int), [])
  | 0, k, h1, h2, h3 => by
    refine Goes.er (er_of (fun q => w26_2a _ _ _) ?_)
    rw [shl1 (by omega)]
    exact er_f (decide_eq_false (by omega)) er_some
  | f + 1, k, h1, h2, h3 => by
    refine Goes.er (er_of (fun q => w26_2a _ _ _) ?_)
    rw [shl1 (by omega)]
    by_cases h : k * 2 < n
    · simp only [splF]
      rw [decide_eq_true h]
      exact er_t (decide_eq_true (by omega)) (er_lab (g26 n hn f (k * 2) (by omega) (by omega) (by omega)))
    · simp only [splF]
      rw [decide_eq_false h]
      exact er_f (decide_eq_false (by omega)) er_some
theorem spFirst_ok : SpecOK Γ ⟨26, dat spFirst⟩ := dat_ok fun args r hr => by
  unfold spFirst at hr
  split at hr
  · rename_i n
    simp only [Option.some.injEq, Prod.mk.injEq] at hr
    obtain ⟨h1, rfl⟩ := hr
    unfold spC at h1
    simp only [Bool.and_eq_true, decide_eq_true_eq] at h1
    obtain ⟨m, rfl⟩ : ∃ m : Nat, n = (m : Int) := ⟨n.toNat, by omega⟩
    obtain ⟨q, hq⟩ := g26 m (by omega) m 1 (by omega) (by omega) (by omega)
    refine ret_goes (Γ := Γ) hP hZ none_ok (by kernel_rfl) ⟨q, ?_⟩
    rw [w26]
    unfold splI
    rw [Int.toNat_natCast]
    exact hq
  · cases hr
theorem g23 (n : Nat) (hn : n ≤ 1073741824) : ∀ (f k : Nat), 1 ≤ k → k ≤ 1073741824 → n ≤ k + f → Goes Γ (runS []) 23 2 ⟨[(0, .i .i64 (n : Int)), (3, .i .i64 (k : Int))], []⟩ (.i .i64 (splF f k n : Int), [])
  | 0, k, h1, h2, h3 => by
    refine Goes.er (er_of (fun q => w23_2a _ _ _) ?_)
    rw [show IntKind.wrap .i64 ((k : Int) * 2) = ((k * 2 : Nat) : Int) by rw [wrapI (by omega) (by omega)]; omega]
    exact er_f (decide_eq_false (by omega)) er_some
  | f + 1, k, h1, h2, h3 => by
    refine Goes.er (er_of (fun q => w23_2a _ _ _) ?_)
    rw [show IntKind.wrap .i64 ((k : Int) * 2) = ((k * 2 : Nat) : Int) by rw [wrapI (by omega) (by omega)]; omega]
    by_cases h : k * 2 < n
    · simp only [splF]
      rw [decide_eq_true h]
      exact er_t (decide_eq_true (by omega)) (er_lab (g23 n hn f (k * 2) (by omega) (by omega) (by omega)))
    · simp only [splF]
      rw [decide_eq_false h]
      exact er_f (decide_eq_false (by omega)) er_some
theorem spSplit_ok : SpecOK Γ ⟨23, dat spFirst⟩ := dat_ok fun args r hr => by
  unfold spFirst at hr
  split at hr
  · rename_i n
    simp only [Option.some.injEq, Prod.mk.injEq] at hr
    obtain ⟨h1, rfl⟩ := hr
    unfold spC at h1
    simp only [Bool.and_eq_true, decide_eq_true_eq] at h1
    obtain ⟨m, rfl⟩ : ∃ m : Nat, n = (m : Int) := ⟨n.toNat, by omega⟩
    obtain ⟨q, hq⟩ := g23 m (by omega) m 1 (by omega) (by omega) (by omega)
    refine ret_goes (Γ := Γ) hP hZ none_ok (by kernel_rfl) ⟨q, ?_⟩
    rw [w23]
    unfold splI
    rw [Int.toNat_natCast]
    exact hq
  · cases hr
/-! ### leaves, nodes -/
theorem W25_ok : CallsOK Γ W25 := specs_ok (.cons spSha_ok .nil)
theorem W27_ok : CallsOK Γ W27 := specs_ok (.cons spSha_ok .nil)
theorem spLeaf_ok : SpecOK Γ ⟨25, dat spLeaf⟩ := dat_ok fun args r hr => by
  unfold spLeaf at hr
  split at hr
  · rename_i c b
    simp only [Option.some.injEq, Prod.mk.injEq] at hr
    obtain ⟨h1, rfl⟩ := hr
    unfold lfC at h1
    simp only [Bool.and_eq_true, decide_eq_true_eq] at h1
    refine RetX.anyc (ret_goes (Γ := Γ) hP hZ W25_ok (by kernel_rfl) ⟨0, ?_⟩)
    have hcat : catB [D.slice .ex [D.int .u8 0], D.slice .any b] = 0 :: unB b := by
      show unB [D.int .u8 0] ++ (unB b ++ []) = _
      rw [List.append_nil]; rfl
    have hc : bsC [D.slice .ex [D.int .u8 0], D.slice .any b] = true := by
      unfold bsC
      rw [hcat, List.length_cons, unB_len, decide_eq_true (by simp; omega)]
      show (true && (isBy b && true)) && true = true
      rw [h1.1]; rfl
    rw [w25, hc]
    unfold shaL
    rw [hcat]; rfl
  · cases hr
theorem dg_ex {l : List D} (h : isDg l = true) : isBy l = true ∧ l.length = 32 := by
  unfold isDg at h
  simpa using h
theorem dg_of {t : Tx} (h : t.length = 32) : isDg (bytesD t) = true := by
  unfold isDg
  rw [isBy_bytesD, bytesD_len, decide_eq_true h]; rfl
theorem spNode_ok : SpecOK Γ ⟨27, dat spNode⟩ := dat_ok fun args r hr => by
  unfold spNode at hr
  split at hr
  · rename_i a b
    simp only [Option.some.injEq, Prod.mk.injEq, Bool.and_eq_true] at hr
    obtain ⟨⟨h1, h2⟩, rfl⟩ := hr
    obtain ⟨h1, h1'⟩ := dg_ex h1
    obtain ⟨h2, h2'⟩ := dg_ex h2
    refine ret_goes (Γ := Γ) hP hZ W27_ok (by kernel_rfl) ⟨0, ?_⟩
    have hcat : catB [D.slice .ex [D.int .u8 1], D.slice .ex a, D.slice .ex b] = 1 :: (unB a ++ unB b) := by
      show unB [D.int .u8 1] ++ (unB a ++ (unB b ++ [])) = _
      rw [List.append_nil]; rfl
    have hc : bsC [D.slice .ex [D.int .u8 1], D.slice .ex a, D.slice .ex b] = true := by
      unfold bsC
      rw [hcat, List.length_cons, List.length_append, unB_len, unB_len, decide_eq_true (by simp; omega)]
      show (true && (isBy a && (isBy b && true))) && true = true
      rw [h1, h2]; rfl
    rw [w27, hc]
    unfold shaL
    rw [hcat]; rfl
  · cases hr
/-! ### roots -/
theorem lvs_len (l : List D) : (lvs l).length = l.length := by unfold lvs; simp
theorem lvs_take (l : List D) (n : Nat) : lvs (l.take n) = (lvs l).take n := by unfold lvs; simp
theorem lvs_drop (l : List D) (n : Nat) : lvs (l.drop n) = (lvs l).drop n := by unfold lvs; simp
theorem catB_app (a b : List D) : catB (a ++ b) = catB a ++ catB b := by unfold catB; simp
theorem cat_parts (l : List D) (n : Nat) : (catB (l.take n)).length + (catB (l.drop n)).length = (catB l).length := by
  rw [← List.length_append, ← catB_app, List.take_append_drop]
theorem lvC_ex {N : Nat} {l : List D} (h : lvC N l = true) : l.all isBs = true ∧ (catB l).length + l.length ≤ 536870912 ∧ l.length < N := by
  unfold lvC at h
  simpa using h
theorem lvC_of {N : Nat} {l : List D} (h1 : l.all isBs = true) (h2 : (catB l).length + l.length ≤ 536870912) (h3 : l.length < N) : lvC N l = true := by
  unfold lvC
  rw [h1, decide_eq_true h2, decide_eq_true h3]; rfl
theorem all_take {α : Type} {p : α → Bool} {l : List α} (n : Nat) (h : l.all p = true) : (l.take n).all p = true := List.all_eq_true.2 fun x hx => List.all_eq_true.1 h x (List.mem_of_mem_take hx)
theorem all_drop {α : Type} {p : α → Bool} {l : List α} (n : Nat) (h : l.all p = true) : (l.drop n).all p = true := List.all_eq_true.2 fun x hx => List.all_eq_true.1 h x (List.mem_of_mem_drop hx)
theorem lvC_take {N n : Nat} {l : List D} (h : lvC (N + 1) l = true) (hn : n < l.length) : lvC N (l.take n) = true := by
  obtain ⟨h1, h2, h3⟩ := lvC_ex h
  have := cat_parts l n
  exact lvC_of (all_take n h1) (by rw [List.length_take]; omega) (by rw [List.length_take]; omega)
theorem lvC_drop {N n : Nat} {l : List D} (h : lvC (N + 1) l = true) (hn : 1 ≤ n) (hn2 : n ≤ l.length) : lvC N (l.drop n) = true := by
  obtain ⟨h1, h2, h3⟩ := lvC_ex h
  have := cat_parts l n
  exact lvC_of (all_drop n h1) (by rw [List.length_drop]; omega) (by rw [List.length_drop]; omega)
theorem spl_len (l : List D) : splI (l.length : Int) = (split l.length : Int) := by unfold splI; rw [Int.toNat_natCast]
theorem cutT (l : List D) (k : Nat) : List.take (k - 0) (List.drop 0 l) = l.take k := by rw [Nat.sub_zero, List.drop_zero]
theorem cutD (l : List D) (k : Nat) : List.take (l.length - k) (List.drop k l) = l.drop k := List.take_of_length_le (by rw [List.length_drop]; exact Nat.le_refl _)
theorem c_in {k n : Nat} (h : k ≤ n) : (decide ((0 : Int) ≤ (k : Int)) && decide ((k : Int) ≤ (n : Int))) = true := by rw [decide_eq_true (by omega), decide_eq_true (by omega)]; rfl
theorem spC_of {n : Nat} (h : n ≤ 536870912) : spC (n : Int) = true := by
  unfold spC
  rw [decide_eq_true (by omega), decide_eq_true (by omega)]; rfl
theorem spRoot_ok : ∀ N, SpecOK Γ ⟨14, dat (spRoot N)⟩
  | 0 => dat_ok fun args r hr => by
    unfold spRoot at hr
    split at hr
    · simp only [Option.some.injEq, Prod.mk.injEq] at hr
      have := (lvC_ex hr.1).2.2
      omega
    · cases hr
  | N + 1 => dat_ok fun args r hr => by
    have hW : CallsOK Γ (W14 N) := specs_ok (.cons spSha_ok (.cons spLeaf_ok (.cons spFirst_ok (.cons (spRoot_ok N) (.cons spNode_ok .nil)))))
    unfold spRoot at hr
    split at hr
    · rename_i c l
      simp only [Option.some.injEq, Prod.mk.injEq] at hr
      obtain ⟨h0, rfl⟩ := hr
      obtain ⟨h1, h2, h3⟩ := lvC_ex h0
      refine RetX.anyc ?_
      by_cases hl : 2 ≤ l.length
      · obtain ⟨k1, k2⟩ := split_lt hl
        refine ret_goes (Γ := Γ) hP hZ hW (by kernel_rfl) ⟨0, ?_⟩
        rw [w14, spl_len]
        simp only [Int.toNat_natCast]
        rw [cutT, cutD, show ((l.length : Int) == 0) = false by rw [beq_eq_false_iff_ne]; omega, show ((l.length : Int) == 1) = false by rw [beq_eq_false_iff_ne]; omega, spC_of (by omega), c_in (by omega), lvC_take h0 k2, lvC_drop h0 k1 (by omega), dg_of (rootT_len _), dg_of (rootT_len _), unB_bytesD, unB_bytesD, lvs_take, lvs_drop]
        rw [root_eq (l := lvs l) (by rw [lvs_len]; exact hl), lvs_len]
        rfl
      · match l with
        | [] => exact ret_goes (Γ := Γ) hP hZ hW (by kernel_rfl) ⟨0, by rw [w14]; rfl⟩
        | [y] =>
          have h1 : isBs y = true ∧ True := by simpa using h1
          obtain ⟨cy, x, rfl, hx⟩ := bs_ex h1.1
          have hlf : lfC x = true := by
            unfold lfC
            have : (catB [D.slice cy x]).length = x.length := by
              show (unB x ++ []).length = _
              rw [List.append_nil, unB_len]
            rw [hx, decide_eq_true (by omega)]; rfl
          refine ret_goes (Γ := Γ) hP hZ hW (by kernel_rfl) ⟨0, ?_⟩
          rw [w14]
          show (bif lfC x then (some (AV.d 35 (D.agg (bytesD (leafT (unB x)))), ([] : Objs))) else none) = _
          rw [hlf]; rfl
        | a :: b :: r => simp at hl
    · cases hr
/-! ### what is known of a variable: less of a slice's room -/
theorem RepT.anyS {P : Program} {w : World} {S : Addr → Prop} {c : Cp} {l : List D} {b : Bool} {t : TypeId} {vs : List Value} (h : RepT P w S (.agg [.slice c l, .bool b]) t vs) : RepT P w S (.agg [.slice .any l, .bool b]) t vs := by
  simp only [RepT, RepFs] at h ⊢
  rcases h with ⟨flds, h1, h2⟩ | ⟨n, e, h1, h2, h3⟩
  · refine .inl ⟨flds, h1, ?_⟩
    obtain ⟨t1, ts1, v1, v2, e1, e2, ⟨e, a, cap, g1, g2, g3, g4⟩, hr⟩ := h2
    exact ⟨t1, ts1, v1, v2, e1, e2, ⟨e, a, cap, g1, g2, g3.any, g4⟩, hr⟩
  · refine .inr ⟨n, e, h1, h2, ?_⟩
    obtain ⟨t1, ts1, v1, v2, e1, e2, ⟨e, a, cap, g1, g2, g3, g4⟩, hr⟩ := h3
    exact ⟨t1, ts1, v1, v2, e1, e2, ⟨e, a, cap, g1, g2, g3.any, g4⟩, hr⟩
theorem RetX.wkbox {Γ : Ctx} {g : FuncId} {args : List AV} {obs : Objs} {r : AV} {u : TypeId} {c : Cp} {l : List D} {b : Bool} (h : RetX Γ g args obs r [some (.box u (.d u (.agg [.slice c l, .bool b])))]) : RetX Γ g args obs r [some (.box u (.d u (.agg [.slice .any l, .bool b])))] := by
  intro w S σ X vals h0 h1 h2
  refine (h w S σ X vals h0 h1 h2).mono ?_
  rintro v w' ⟨S', σ', h3, h4, h5⟩
  have hO := h3.objs 0 _ rfl
  have t : Trans Γ w S X w' S' σ' [some (.box u (.d u (.agg [.slice c l, .bool b])))] w' S' σ' ([some (.box u (.d u (.agg [.slice c l, .bool b])))].set 0 (some (.box u (.d u (.agg [.slice .any l, .bool b]))))) := by
    refine MemOK.turn h3 (j := 0) (o := .box u (.d u (.agg [.slice c l, .bool b]))) rfl (by simp [alike]) (fun _ _ => rfl) rfl (Keeps.refl _ _) (fun a ha => .inl ha) ?_
    simp only [ObjAt] at hO ⊢
    obtain ⟨vs, el, fr, hb, hnf, hel, hlen, hbox, hone, hS⟩ := hO
    obtain ⟨hfit, v, hv, hrep⟩ := hbox
    refine ⟨vs, el, fr, hb, hnf, hel, hlen, ⟨?_, v, hv, ?_⟩, hone, hS⟩
    · unfold fits isTy at hfit ⊢
      generalize ds Γ.P u = dd at hfit ⊢
      cases dd <;> exact hfit
    · simp only [RepA] at hrep ⊢
      obtain ⟨cs, e1, e2, _⟩ := hrep
      exact ⟨cs, e1, e2.anyS, _, rfl⟩
  exact ⟨S', σ', t.ok, h4, t.rep _ _ h5⟩
end Go.Proofs.YtafmogdnhpnbiaaDoor.V

/- Proofs of leaves: contracts: the walker, paths, growths, and whether they lead to a root. -/
namespace Go.Proofs.YtafmogdnhpnbiaaDoor.V
open Go
set_option maxRecDepth 100000
set_option linter.unusedVariables false
set_option linter.unusedSimpArgs false
theorem dgs_len (l : List Tx) : (dgs l).length = l.length := by unfold dgs; simp
theorem unDs_len (l : List D) : (unDs l).length = l.length := by unfold unDs; simp
theorem unDs_dgs : ∀ (l : List Tx), unDs (dgs l) = l
  | [] => rfl
  | t :: r => by
    show unB (bytesD t) :: unDs (dgs r) = _
    rw [unB_bytesD, unDs_dgs r]
theorem isD1_eq {d : D} (h : isD1 d = true) : ∃ ys, d = .agg ys ∧ isDg ys = true := by
  unfold isD1 at h
  split at h
  · exact ⟨_, rfl, h⟩
  · cases h
theorem ds_ex {l : List D} (h : isDs l = true) : l.all isD1 = true ∧ l.length ≤ 4194304 := by
  unfold isDs at h
  simpa using h
theorem dgs_unD : ∀ {l : List D}, l.all isD1 = true → dgs (unDs l) = l
  | [], _ => rfl
  | d :: r, h => by
    have h : isD1 d = true ∧ r.all isD1 = true := by simpa using h
    obtain ⟨ys, rfl, hy⟩ := isD1_eq h.1
    show D.agg (bytesD (unB ys)) :: dgs (unDs r) = _
    rw [dgs_unD h.2, ← isBy_eq (dg_ex hy).1]
theorem dgs_unDs {l : List D} (h : isDs l = true) : dgs (unDs l) = l := dgs_unD (ds_ex h).1
def allT (l : List Tx) : Prop := ∀ t ∈ l, t.length = 32
theorem isD1_dgs : ∀ {l : List Tx}, allT l → (dgs l).all isD1 = true
  | [], _ => rfl
  | t :: r, h => by
    show (isDg (bytesD t) && (dgs r).all isD1) = true
    rw [dg_of (h t (by simp)), isD1_dgs fun x hx => h x (List.mem_cons_of_mem _ hx)]; rfl
theorem isDs_dgs {l : List Tx} (h : allT l) (hl : l.length ≤ 4194304) : isDs (dgs l) = true := by
  unfold isDs
  rw [isD1_dgs h, dgs_len, decide_eq_true hl]; rfl
theorem allT_unDs {l : List D} (h : isDs l = true) : allT (unDs l) := by
  intro t ht
  obtain ⟨d, hd, rfl⟩ := List.mem_map.1 ht
  obtain ⟨ys, rfl, hy⟩ := isD1_eq (List.all_eq_true.1 (ds_ex h).1 d hd)
  show (unB ys).length = 32
  rw [unB_len]; exact (dg_ex hy).2
theorem unDs_empty (l : List D) : (unDs l).isEmpty = l.isEmpty := by cases l <;> rfl
theorem zer_D : bytesD zer = List.replicate 32 (D.int .u8 0) := rfl
theorem tkT_len {p : List Tx} (h : allT p) : (tkT p).length = 32 := by
  unfold tkT
  cases hp : p.getLast? with
  | none => rfl
  | some t => exact h t (List.mem_of_getLast? hp)
theorem allT_dropLast {p : List Tx} (h : allT p) : allT p.dropLast := fun t ht => h t (List.dropLast_subset p ht)
theorem tkD_dg {l : List D} (h : isDs l = true) : isDg (tkD l) = true := dg_of (tkT_len (allT_unDs h))
theorem tkL_ds {l : List D} (h : isDs l = true) : isDs (tkL l) = true := isDs_dgs (allT_dropLast (allT_unDs h)) (by rw [List.length_dropLast, unDs_len]; have := (ds_ex h).2; omega)
theorem unDs_tkL (l : List D) : unDs (tkL l) = (unDs l).dropLast := unDs_dgs _
/-! ### a digest is taken -/
theorem xTake_ok : SpecOK Γ ⟨40, xTake⟩ := by
  intro args obs r obs' hr
  change xTake args obs = some (true, r, obs') at hr
  unfold xTake at hr
  split at hr
  · rename_i c l b
    simp only [Option.some.injEq, Prod.mk.injEq] at hr
    obtain ⟨h1, rfl, rfl⟩ := hr
    by_cases h0 : l.length = 0
    · have : l = [] := List.eq_nil_of_length_eq_zero h0
      subst this
      have hb : tkB [] b = true := by unfold tkB; cases b <;> rfl
      rw [hb]
      refine RetX.wkbox (c := c) (ret_goes (Γ := Γ) hP hZ none_ok (by kernel_rfl) ⟨0, ?_⟩)
      rw [w40]
      show _ = some (AV.d 35 (D.agg (bytesD zer)), _)
      rw [zer_D]; rfl
    · refine ret_goes (Γ := Γ) hP hZ none_ok (by kernel_rfl) ?_
      have hlt : l.length - 1 < l.length := by omega
      obtain ⟨ys, hy, hyd⟩ := isD1_eq (List.all_eq_true.1 (ds_ex h1).1 l[l.length - 1] (List.getElem_mem hlt))
      have hg : l[l.length - 1]? = some (D.agg ys) := by rw [List.getElem?_eq_getElem hlt, hy]
      have hT : tkT (unDs l) = unB ys := by
        unfold tkT unDs
        rw [List.getLast?_map, List.getLast?_eq_getElem?, hg]; rfl
      have hD : tkD l = ys := by
        unfold tkD
        rw [hT, ← isBy_eq (dg_ex hyd).1]
      have hL : tkL l = l.take (l.length - 1) := by
        unfold tkL
        rw [List.dropLast_eq_take, unDs_len, show (unDs l).take (l.length - 1) = unDs (l.take (l.length - 1)) by unfold unDs; simp]
        exact dgs_unD (all_take _ (ds_ex h1).1)
      have hB : tkB l b = b := by
        unfold tkB
        cases l with
        | nil => exact absurd rfl h0
        | cons _ _ => cases b <;> rfl
      rw [hD, hL, hB]
      by_cases hbig : l.length ≤ 4611686018427387904
      · have w1 : IntKind.wrap .i64 ((l.length : Int) - 1) = ((l.length - 1 : Nat) : Int) := by rw [wrapI (by omega) (by omega)]; omega
        have : EXR (.d 35 (.agg ys), [some (.box 61 (.d 61 (D.agg [D.slice .any (l.take (l.length - 1)), D.bool b])))]) fun q => evF Γ (runS []) (L Γ (runS []) 40 q) 40 [.ptr 0 [] 61] [some (.box 61 (.d 61 (D.agg [D.slice c l, D.bool b])))] := by
          refine er_of (fun q => w40 _ _ _ _) ?_
          rw [w1]
          refine er_f (by rw [beq_eq_false_iff_ne]; omega) (er_idx (by omega) (by rw [Int.toNat_natCast]; exact hg) (er_agg (er_t (c_in (by omega)) (er_is ?_))))
          rw [Int.toNat_natCast, cutT]
        exact this
      · exact absurd (ds_ex h1).2 (by omega)
  · cases hr
/-! ### a path is climbed -/
theorem climb_all : ∀ (s : Nat) (p : List Tx) (b : Bool) (d : Tx) (n : Nat), 1 ≤ s → allT p → d.length = 32 → (climbT p b d n s).1.length = 32 ∧ allT (climbT p b d n s).2.1 ∧ (climbT p b d n s).2.1.length ≤ p.length := by
  intro s
  induction s using Nat.strongRecOn with
  | _ s ih =>
    intro p b d n h1 hp hd
    by_cases h : 2 ≤ s
    · obtain ⟨k1, k2⟩ := split_lt h
      rw [climb_hi p b d n h]
      cases b with
      | true => exact ⟨hd, hp, Nat.le_refl _⟩
      | false =>
        obtain ⟨_, a2, a3⟩ := ih (split s) k2 p.dropLast (false || p.isEmpty) d n k1 (allT_dropLast hp) hd
        obtain ⟨_, b2, b3⟩ := ih (s - split s) (by omega) p.dropLast (false || p.isEmpty) d (n - split s) (by omega) (allT_dropLast hp) hd
        rw [List.length_dropLast] at a3 b3
        cases decide (n < split s) with
        | true => exact ⟨nodeT_len _ _, a2, by show (climbT p.dropLast (false || p.isEmpty) d n (split s)).2.1.length ≤ _; omega⟩
        | false => exact ⟨nodeT_len _ _, b2, by show (climbT p.dropLast (false || p.isEmpty) d (n - split s) (s - split s)).2.1.length ≤ _; omega⟩
    · obtain rfl : s = 1 := by omega
      exact ⟨hd, hp, Nat.le_refl _⟩
theorem clC_ex {N : Nat} {l d : List D} {b : Bool} {n s : Int} (h : clC N l b d n s = true) : isDs l = true ∧ isDg d = true ∧ 0 ≤ n ∧ n < s ∧ s ≤ (N : Int) ∧ s ≤ 1073741824 := by
  unfold clC at h
  simpa using h
theorem clC_of {N : Nat} {l d : List D} {b : Bool} {n s : Int} (h1 : isDs l = true) (h2 : isDg d = true) (h3 : 0 ≤ n) (h4 : n < s) (h5 : s ≤ (N : Int)) (h6 : s ≤ 1073741824) : clC N l b d n s = true := by
  unfold clC
  rw [h1, h2, decide_eq_true h3, decide_eq_true h4, decide_eq_true h5, decide_eq_true h6]; rfl
theorem cl_dg {N : Nat} {l d : List D} {b : Bool} {n s : Int} (h : clC N l b d n s = true) : isDg (clD l b d n s) = true := by
  obtain ⟨h1, h2, h3, h4, h5, h6⟩ := clC_ex h
  exact dg_of (climb_all _ _ _ _ _ (by omega) (allT_unDs h1) (by rw [unB_len]; exact (dg_ex h2).2)).1
theorem clT_tk (l d : List D) (b : Bool) (n s : Int) : clT (tkL l) (tkB l b) d n s = climbT (unDs l).dropLast (b || (unDs l).isEmpty) (unB d) n.toNat s.toNat := by
  unfold clT tkB
  rw [unDs_tkL, unDs_empty]
theorem spl_nat (m : Nat) : splI (m : Int) = (split m : Int) := by unfold splI; rw [Int.toNat_natCast]
theorem xClimb_ok : ∀ N, SpecOK Γ ⟨32, xClimb N⟩
  | 0 => by
    intro args obs r obs' hr
    change xClimb 0 args obs = some (true, r, obs') at hr
    unfold xClimb at hr
    split at hr
    · simp only [Option.some.injEq, Prod.mk.injEq] at hr
      have := clC_ex hr.1
      omega
    · cases hr
  | N + 1 => by
    have hW : CallsOK Γ (W32 N) := specs_ok (.cons spFirst_ok (.cons xTake_ok (.cons (xClimb_ok N) (.cons spNode_ok .nil))))
    intro args obs r obs' hr
    change xClimb (N + 1) args obs = some (true, r, obs') at hr
    unfold xClimb at hr
    split at hr
    · rename_i d n s c l b
      simp only [Option.some.injEq, Prod.mk.injEq] at hr
      obtain ⟨h0, rfl, rfl⟩ := hr
      obtain ⟨h1, h2, h3, h4, h5, h6⟩ := clC_ex h0
      obtain ⟨n, rfl⟩ : ∃ m : Nat, n = (m : Int) := ⟨n.toNat, by omega⟩
      obtain ⟨s, rfl⟩ : ∃ m : Nat, s = (m : Int) := ⟨s.toNat, by omega⟩
      have hd : bytesD (unB d) = d := (isBy_eq (dg_ex h2).1).symm
      by_cases hs : s = 1 ∨ b = true
      · have hT : clT l b d (n : Int) (s : Int) = (unB d, unDs l, b) := by
          unfold clT
          rw [Int.toNat_natCast, Int.toNat_natCast]
          rcases hs with rfl | rfl
          · exact climb_one _ _ _ _
          · by_cases h : 2 ≤ s
            · rw [climb_hi _ _ _ _ h]; rfl
            · obtain rfl : s = 1 := by omega
              exact climb_one _ _ _ _
        unfold clD clL clB
        rw [hT]
        show RetX Γ 32 _ _ (.d 35 (.agg (bytesD (unB d)))) [some (.box 61 (.d 61 (.agg [.slice .any (dgs (unDs l)), .bool b])))]
        rw [hd, dgs_unDs h1]
        refine RetX.wkbox (c := c) (ret_goes (Γ := Γ) hP hZ hW (by kernel_rfl) ⟨0, ?_⟩)
        rw [w32]
        rcases hs with rfl | rfl
        · rfl
        · cases ((s : Int) == 1) <;> rfl
      · have hs1 : s ≠ 1 := fun h => hs (.inl h)
        have hb : b = false := by cases b with | true => exact absurd (.inr rfl) hs | false => rfl
        subst hb
        have hs2 : 2 ≤ s := by omega
        obtain ⟨k1, k2⟩ := split_lt hs2
        have hT := climb_hi (unDs l) false (unB d) n hs2
        have hk := tkD_dg h1
        have hsp : spC (s : Int) = true := by unfold spC; rw [decide_eq_true (by omega), decide_eq_true (by omega)]; rfl
        refine ret_goes (Γ := Γ) hP hZ hW (by kernel_rfl) ⟨0, ?_⟩
        rw [w32, spl_nat, show ((s : Int) == 1) = false by rw [beq_eq_false_iff_ne]; omega, hsp, h1]
        have hu : unB (tkD l) = tkT (unDs l) := unB_bytesD _
        by_cases hn : n < split s
        · have hc : clC N (tkL l) (tkB l false) d (n : Int) ((split s : Nat) : Int) = true := clC_of (tkL_ds h1) h2 (by omega) (by omega) (by omega) (by omega)
          rw [decide_eq_true (show (n : Int) < ((split s : Nat) : Int) by omega), hc, cl_dg hc, hk]
          have e := clT_tk l d false (n : Int) ((split s : Nat) : Int)
          rw [decide_eq_true hn, cond_false, cond_true] at hT
          unfold clD clL clB
          rw [e]
          unfold clT
          simp only [Int.toNat_natCast]
          rw [hT, unB_bytesD, hu]; rfl
        · have w1 : IntKind.wrap .i64 ((n : Int) - ((split s : Nat) : Int)) = ((n - split s : Nat) : Int) := by rw [wrapI (by omega) (by omega)]; omega
          have w2 : IntKind.wrap .i64 ((s : Int) - ((split s : Nat) : Int)) = ((s - split s : Nat) : Int) := by rw [wrapI (by omega) (by omega)]; omega
          have hc : clC N (tkL l) (tkB l false) d ((n - split s : Nat) : Int) ((s - split s : Nat) : Int) = true := clC_of (tkL_ds h1) h2 (by omega) (by omega) (by omega) (by omega)
          rw [decide_eq_false (show ¬ (n : Int) < ((split s : Nat) : Int) by omega), w1, w2, hc, cl_dg hc, hk]
          simp only [cond_true, cond_false, Bool.and_self]
          have e := clT_tk l d false ((n - split s : Nat) : Int) ((s - split s : Nat) : Int)
          rw [decide_eq_false hn, cond_false, cond_false] at hT
          unfold clD clL clB
          rw [e]
          unfold clT
          simp only [Int.toNat_natCast]
          rw [hT, unB_bytesD, hu]
    · cases hr
/-! ### both at once -/
theorem both_allT : ∀ (n : Nat) (p : List Tx) (b : Bool) (d : Tx) (m : Nat) (k : Bool), 1 ≤ m → m ≤ n → allT p → d.length = 32 → (bothT p b d m n k).1.length = 32 ∧ (bothT p b d m n k).2.1.length = 32 ∧ allT (bothT p b d m n k).2.2.1 ∧ (bothT p b d m n k).2.2.1.length ≤ p.length := by
  intro n
  induction n using Nat.strongRecOn with
  | _ n ih =>
    intro p b d m k h1 h2 hp hd
    cases b with
    | true => rw [both_bad p d k (by omega)]; exact ⟨hd, hd, hp, Nat.le_refl _⟩
    | false =>
      by_cases h : m = n
      · subst h
        rw [both_all p d k h1]
        cases k with
        | true => exact ⟨hd, hd, hp, Nat.le_refl _⟩
        | false => exact ⟨tkT_len hp, tkT_len hp, allT_dropLast hp, by show p.dropLast.length ≤ _; rw [List.length_dropLast]; omega⟩
      · obtain ⟨k1, k2⟩ := split_lt (show 2 ≤ n by omega)
        rw [both_hi p d k h1 (by omega)]
        by_cases hm : m ≤ split n
        · obtain ⟨a1, a2, a3, a4⟩ := ih (split n) k2 p.dropLast p.isEmpty d m k h1 hm (allT_dropLast hp) hd
          rw [List.length_dropLast] at a4
          rw [decide_eq_true hm]
          exact ⟨a1, nodeT_len _ _, a3, by show (bothT p.dropLast p.isEmpty d m (split n) k).2.2.1.length ≤ _; omega⟩
        · obtain ⟨a1, a2, a3, a4⟩ := ih (n - split n) (by omega) p.dropLast p.isEmpty d (m - split n) false (by omega) (by omega) (allT_dropLast hp) hd
          rw [List.length_dropLast] at a4
          rw [decide_eq_false hm]
          exact ⟨nodeT_len _ _, nodeT_len _ _, a3, by show (bothT p.dropLast p.isEmpty d (m - split n) (n - split n) false).2.2.1.length ≤ _; omega⟩
theorem boC_ex {N : Nat} {l d : List D} {b k : Bool} {m n : Int} (h : boC N l b d m n k = true) : isDs l = true ∧ isDg d = true ∧ 1 ≤ m ∧ m ≤ n ∧ n ≤ (N : Int) ∧ n ≤ 1073741824 := by
  unfold boC at h
  simpa using h
theorem boC_of {N : Nat} {l d : List D} {b k : Bool} {m n : Int} (h1 : isDs l = true) (h2 : isDg d = true) (h3 : 1 ≤ m) (h4 : m ≤ n) (h5 : n ≤ (N : Int)) (h6 : n ≤ 1073741824) : boC N l b d m n k = true := by
  unfold boC
  rw [h1, h2, decide_eq_true h3, decide_eq_true h4, decide_eq_true h5, decide_eq_true h6]; rfl
theorem bo_dg {N : Nat} {l d : List D} {b k : Bool} {m n : Int} (h : boC N l b d m n k = true) : isDg (boD1 l b d m n k) = true ∧ isDg (boD2 l b d m n k) = true := by
  obtain ⟨h1, h2, h3, h4, h5, h6⟩ := boC_ex h
  obtain ⟨a1, a2, _⟩ := both_allT n.toNat (unDs l) b (unB d) m.toNat k (by omega) (by omega) (allT_unDs h1) (by rw [unB_len]; exact (dg_ex h2).2)
  exact ⟨dg_of a1, dg_of a2⟩
theorem boT_tk (l d : List D) (m n : Int) (k : Bool) : boT (tkL l) (tkB l false) d m n k = bothT (unDs l).dropLast (unDs l).isEmpty (unB d) m.toNat n.toNat k := by
  unfold boT tkB
  rw [unDs_tkL, unDs_empty, Bool.false_or]
theorem xBoth_ok : ∀ N, SpecOK Γ ⟨33, xBoth N⟩
  | 0 => by
    intro args obs r obs' hr
    change xBoth 0 args obs = some (true, r, obs') at hr
    unfold xBoth at hr
    split at hr
    · simp only [Option.some.injEq, Prod.mk.injEq] at hr
      have := boC_ex hr.1
      omega
    · cases hr
  | N + 1 => by
    have hW : CallsOK Γ (W33 N) := specs_ok (.cons spFirst_ok (.cons xTake_ok (.cons (xBoth_ok N) (.cons spNode_ok .nil))))
    intro args obs r obs' hr
    change xBoth (N + 1) args obs = some (true, r, obs') at hr
    unfold xBoth at hr
    split at hr
    · rename_i d m n k c l b
      simp only [Option.some.injEq, Prod.mk.injEq] at hr
      obtain ⟨h0, rfl, rfl⟩ := hr
      obtain ⟨h1, h2, h3, h4, h5, h6⟩ := boC_ex h0
      obtain ⟨m, rfl⟩ : ∃ q : Nat, m = (q : Int) := ⟨m.toNat, by omega⟩
      obtain ⟨n, rfl⟩ : ∃ q : Nat, n = (q : Int) := ⟨n.toNat, by omega⟩
      have hd : bytesD (unB d) = d := (isBy_eq (dg_ex h2).1).symm
      have hk := tkD_dg h1
      have hu : unB (tkD l) = tkT (unDs l) := unB_bytesD _
      by_cases hs : b = true ∨ (m = n ∧ k = true)
      · have hT : boT l b d (m : Int) (n : Int) k = (unB d, unB d, unDs l, b) := by
          unfold boT
          rw [Int.toNat_natCast, Int.toNat_natCast]
          rcases hs with rfl | ⟨rfl, rfl⟩
          · exact both_bad _ _ _ (by omega)
          · cases b with
            | true => exact both_bad _ _ _ (by omega)
            | false => rw [both_all _ _ _ (by omega)]; rfl
        unfold boD1 boD2 boL boB
        rw [hT]
        show RetX Γ 33 _ _ (.tuple [.d 35 (.agg (bytesD (unB d))), .d 35 (.agg (bytesD (unB d)))]) [some (.box 61 (.d 61 (.agg [.slice .any (dgs (unDs l)), .bool b])))]
        rw [hd, dgs_unDs h1]
        refine RetX.wkbox (c := c) (ret_goes (Γ := Γ) hP hZ hW (by kernel_rfl) ⟨0, ?_⟩)
        rw [w33]
        rcases hs with rfl | ⟨rfl, rfl⟩
        · rfl
        · rw [beq_self_eq_true]
          cases b <;> rfl
      · have hb : b = false := by cases b with | true => exact absurd (.inl rfl) hs | false => rfl
        subst hb
        refine ret_goes (Γ := Γ) hP hZ hW (by kernel_rfl) ⟨0, ?_⟩
        by_cases hmn : m = n
        · subst hmn
          have hkf : k = false := by cases k with | true => exact absurd (.inr ⟨rfl, rfl⟩) hs | false => rfl
          subst hkf
          have hT := both_all (unDs l) (unB d) (n := m) false (by omega)
          rw [w33, beq_self_eq_true, h1]
          unfold boD1 boD2 boL boB boT
          simp only [Int.toNat_natCast]
          rw [hT]
          unfold tkD tkL tkB
          rw [← unDs_empty l]
          rfl
        · obtain ⟨k1, k2⟩ := split_lt (show 2 ≤ n by omega)
          have hT := both_hi (unDs l) (unB d) (m := m) (n := n) k (by omega) (by omega)
          have hsp : spC (n : Int) = true := by unfold spC; rw [decide_eq_true (by omega), decide_eq_true (by omega)]; rfl
          rw [w33, spl_nat, show ((m : Int) == (n : Int)) = false by rw [beq_eq_false_iff_ne]; omega, hsp, h1]
          by_cases hm : m ≤ split n
          · have hc : boC N (tkL l) (tkB l false) d (m : Int) ((split n : Nat) : Int) k = true := boC_of (tkL_ds h1) h2 (by omega) (by omega) (by omega) (by omega)
            rw [decide_eq_true (show (m : Int) ≤ ((split n : Nat) : Int) by omega), hc, (bo_dg hc).2, hk]
            have e := boT_tk l d (m : Int) ((split n : Nat) : Int) k
            rw [decide_eq_true hm, cond_true] at hT
            unfold boD1 boD2 boL boB
            rw [e]
            unfold boT
            simp only [Int.toNat_natCast]
            rw [hT, unB_bytesD, hu]; rfl
          · have w1 : IntKind.wrap .i64 ((m : Int) - ((split n : Nat) : Int)) = ((m - split n : Nat) : Int) := by rw [wrapI (by omega) (by omega)]; omega
            have w2 : IntKind.wrap .i64 ((n : Int) - ((split n : Nat) : Int)) = ((n - split n : Nat) : Int) := by rw [wrapI (by omega) (by omega)]; omega
            have hc : boC N (tkL l) (tkB l false) d ((m - split n : Nat) : Int) ((n - split n : Nat) : Int) false = true := boC_of (tkL_ds h1) h2 (by omega) (by omega) (by omega) (by omega)
            rw [decide_eq_false (show ¬ (m : Int) ≤ ((split n : Nat) : Int) by omega), w1, w2, hc, (bo_dg hc).1, (bo_dg hc).2, hk]
            simp only [cond_true, cond_false, Bool.and_self]
            have e := boT_tk l d ((m - split n : Nat) : Int) ((n - split n : Nat) : Int) false
            rw [decide_eq_false hm, cond_false] at hT
            unfold boD1 boD2 boL boB
            rw [e]
            unfold boT
            simp only [Int.toNat_natCast]
            rw [hT, unB_bytesD, unB_bytesD, hu]
    · cases hr
end Go.Proofs.YtafmogdnhpnbiaaDoor.V

/- Proofs of leaves: contracts: paths, growths, and whether they lead to a root. -/
namespace Go.Proofs.YtafmogdnhpnbiaaDoor.V
open Go
set_option maxRecDepth 100000
set_option linter.unusedVariables false
set_option linter.unusedSimpArgs false
theorem room32 {n : Nat} (h : n ≤ 1000000000000) : roomB n 32 = true := by
  unfold roomB
  simp only [Bool.and_eq_true, decide_eq_true_eq]
  exact ⟨rfl, by omega⟩
theorem lvC_up {N : Nat} {l : List D} (h : lvC N l = true) : lvC (N + 1) l = true := by
  obtain ⟨h1, h2, h3⟩ := lvC_ex h
  exact lvC_of h1 h2 (by omega)
theorem dgs_app (a b : List Tx) : dgs (a ++ b) = dgs a ++ dgs b := by unfold dgs; simp
theorem path_le : ∀ (n : Nat) (l : List Tx) (i : Nat), l.length ≤ n → (pathT l i).length ≤ n
  | 0, l, i, h => by rw [path_lo i (by omega)]; exact Nat.zero_le _
  | n + 1, l, i, h => by
    by_cases hl : 2 ≤ l.length
    · obtain ⟨k1, k2⟩ := split_lt hl
      rw [path_hi i hl]
      have a := path_le n (l.take (split l.length)) i (by rw [List.length_take]; omega)
      have b := path_le n (l.drop (split l.length)) (i - split l.length) (by rw [List.length_drop]; omega)
      cases decide (i < split l.length) with
      | true => rw [cond_true, List.length_append]; simp; omega
      | false => rw [cond_false, List.length_append]; simp; omega
    · rw [path_lo i (by omega)]; exact Nat.zero_le _
theorem path_all : ∀ (n : Nat) (l : List Tx) (i : Nat), l.length ≤ n → allT (pathT l i)
  | 0, l, i, h => by rw [path_lo i (by omega)]; intro t ht; cases ht
  | n + 1, l, i, h => by
    by_cases hl : 2 ≤ l.length
    · obtain ⟨k1, k2⟩ := split_lt hl
      rw [path_hi i hl]
      have a := path_all n (l.take (split l.length)) i (by rw [List.length_take]; omega)
      have b := path_all n (l.drop (split l.length)) (i - split l.length) (by rw [List.length_drop]; omega)
      cases decide (i < split l.length) with
      | true =>
        intro t ht
        rcases List.mem_append.1 ht with ht | ht
        · exact a t ht
        · rw [List.mem_singleton.1 ht]; exact rootT_len _
      | false =>
        intro t ht
        rcases List.mem_append.1 ht with ht | ht
        · exact b t ht
        · rw [List.mem_singleton.1 ht]; exact rootT_len _
    · rw [path_lo i (by omega)]; intro t ht; cases ht
theorem grown_le : ∀ (n : Nat) (l : List Tx) (m : Nat) (k : Bool), l.length ≤ n → 1 ≤ m → m ≤ l.length → (grownT l m k).length ≤ n ∧ allT (grownT l m k)
  | 0, l, m, k, h, h1, h2 => by omega
  | n + 1, l, m, k, h, h1, h2 => by
    have one : ∀ t : Tx, t.length = 32 → allT [t] := fun t ht x hx => by rw [List.mem_singleton.1 hx]; exact ht
    by_cases hm : m = l.length
    · subst hm
      rw [grown_all k h1]
      cases k with
      | true => exact ⟨Nat.zero_le _, fun t ht => by cases ht⟩
      | false => exact ⟨by simp, one _ (rootT_len _)⟩
    · obtain ⟨k1, k2⟩ := split_lt (show 2 ≤ l.length by omega)
      rw [grown_hi k h1 (by omega)]
      by_cases hs : m ≤ split l.length
      · obtain ⟨a, b⟩ := grown_le n (l.take (split l.length)) m k (by rw [List.length_take]; omega) h1 (by rw [List.length_take]; omega)
        rw [decide_eq_true hs, cond_true]
        refine ⟨by rw [List.length_append]; simp; omega, fun t ht => ?_⟩
        rcases List.mem_append.1 ht with ht | ht
        · exact b t ht
        · exact one _ (rootT_len _) t ht
      · obtain ⟨a, b⟩ := grown_le n (l.drop (split l.length)) (m - split l.length) false (by rw [List.length_drop]; omega) (by omega) (by rw [List.length_drop]; omega)
        rw [decide_eq_false hs, cond_false]
        refine ⟨by rw [List.length_append]; simp; omega, fun t ht => ?_⟩
        rcases List.mem_append.1 ht with ht | ht
        · exact b t ht
        · exact one _ (rootT_len _) t ht
theorem paC2_ex {N : Nat} {l : List D} {n : Int} (h : paC2 N l n = true) : lvC N l = true ∧ 2 ≤ l.length ∧ 0 ≤ n ∧ n < (l.length : Int) := by
  unfold paC2 at h
  simpa using h
theorem paC2_of {N : Nat} {l : List D} {n : Int} (h1 : lvC N l = true) (h2 : 2 ≤ l.length) (h3 : 0 ≤ n) (h4 : n < (l.length : Int)) : paC2 N l n = true := by
  unfold paC2
  rw [h1, decide_eq_true h2, decide_eq_true h3, decide_eq_true h4]; rfl
/-! ### paths -/
theorem xNo_ok (g : FuncId) : SpecOK Γ ⟨g, xNo⟩ := fun args obs r obs' hr => by
  change xNo args obs = some (true, r, obs') at hr
  unfold xNo at hr
  split at hr <;> cases hr
theorem xPath1_ok : SpecOK Γ ⟨21, xPath1⟩ := by
  have hW : CallsOK Γ (W21z 0) := specs_ok (.cons spFirst_ok (.cons (spRoot_ok 0) (.cons (xNo_ok 21) .nil)))
  intro args obs r obs' hr
  change xPath1 args obs = some (true, r, obs') at hr
  unfold xPath1 at hr
  split at hr
  · rename_i c l n
    simp only [Option.some.injEq, Prod.mk.injEq] at hr
    obtain ⟨h0, rfl, rfl⟩ := hr
    have h0 := of_decide_eq_true h0
    refine RetX.anyc (ret_goes (Γ := Γ) hP hZ hW (by kernel_rfl) ⟨0, ?_⟩)
    rw [z21, h0]; rfl
  · cases hr
theorem W21a_ok (N : Nat) : CallsOK Γ (W21a N) := specs_ok (.cons spFirst_ok (.cons (spRoot_ok N) (.cons xPath1_ok .nil)))
theorem xPath2_ok : ∀ N, SpecOK Γ ⟨21, xPath2 N⟩
  | 0 => by
    intro args obs r obs' hr
    change xPath2 0 args obs = some (true, r, obs') at hr
    unfold xPath2 at hr
    split at hr
    · simp only [Option.some.injEq, Prod.mk.injEq] at hr
      have := (lvC_ex (paC2_ex hr.1).1).2.2
      omega
    · cases hr
  | N + 1 => by
    have hWa := W21a_ok N
    have hWb : CallsOK Γ (W21b N) := specs_ok (.cons spFirst_ok (.cons (spRoot_ok N) (.cons (xPath2_ok N) .nil)))
    intro args obs r obs' hr
    change xPath2 (N + 1) args obs = some (true, r, obs') at hr
    unfold xPath2 at hr
    split at hr
    · rename_i c l n
      simp only [Option.some.injEq, Prod.mk.injEq] at hr
      obtain ⟨h0, rfl, rfl⟩ := hr
      obtain ⟨h1, h2, h3, h4⟩ := paC2_ex h0
      obtain ⟨n, rfl⟩ : ∃ q : Nat, n = (q : Int) := ⟨n.toNat, by omega⟩
      obtain ⟨_, e2, _⟩ := lvC_ex h1
      obtain ⟨k1, k2⟩ := split_lt h2
      have hT := path_hi (l := lvs l) n (by rw [lvs_len]; exact h2)
      rw [lvs_len] at hT
      refine RetX.anyc ?_
      rw [Int.toNat_natCast]
      have hl1 : ((l.length : Int) == 1) = false := by rw [beq_eq_false_iff_ne]; omega
      have ht := lvC_take h1 k2
      have hd := lvC_drop h1 k1 (by omega)
      by_cases hn : n < split l.length
      · rw [decide_eq_true hn, cond_true] at hT
        by_cases hs : split l.length = 1
        · refine ret_goes (Γ := Γ) hP hZ hWa (by kernel_rfl) ⟨0, ?_⟩
          have hp : paC1 (l.take (split l.length)) = true := by unfold paC1; rw [List.length_take, decide_eq_true (by omega)]
          rw [a21, spl_len]
          simp only [Int.toNat_natCast]
          rw [cutT, cutD, hl1, spC_of (by omega), decide_eq_true (show (n : Int) < ((split l.length : Nat) : Int) by omega), c_in (by omega), hp, hd]
          rw [hT, path_lo n (by rw [List.length_take, lvs_len]; omega), lvs_drop]; rfl
        · refine ret_goes (Γ := Γ) hP hZ hWb (by kernel_rfl) ⟨0, ?_⟩
          have hp : paC2 N (l.take (split l.length)) (n : Int) = true := paC2_of ht (by rw [List.length_take]; omega) (by omega) (by rw [List.length_take]; omega)
          have hr : roomB ((dgs (pathT (lvs (l.take (split l.length))) n)).length + 1) 32 = true := by
            have := path_le _ (lvs (l.take (split l.length))) n (Nat.le_refl _)
            rw [lvs_len, List.length_take] at this
            exact room32 (by rw [dgs_len]; omega)
          rw [b21, spl_len]
          simp only [Int.toNat_natCast]
          rw [cutT, cutD, hl1, spC_of (by omega), decide_eq_true (show (n : Int) < ((split l.length : Nat) : Int) by omega), c_in (by omega), hp, hd, hr]
          rw [hT, dgs_app, lvs_take, lvs_drop]; rfl
      · rw [decide_eq_false hn, cond_false] at hT
        have w1 : IntKind.wrap .i64 ((n : Int) - ((split l.length : Nat) : Int)) = ((n - split l.length : Nat) : Int) := by rw [wrapI (by omega) (by omega)]; omega
        by_cases hs : l.length - split l.length = 1
        · refine ret_goes (Γ := Γ) hP hZ hWa (by kernel_rfl) ⟨0, ?_⟩
          have hp : paC1 (l.drop (split l.length)) = true := by unfold paC1; rw [List.length_drop, decide_eq_true (by omega)]
          rw [a21, spl_len]
          simp only [Int.toNat_natCast]
          rw [cutT, cutD, hl1, spC_of (by omega), decide_eq_false (show ¬ (n : Int) < ((split l.length : Nat) : Int) by omega), c_in (by omega), hp, ht]
          rw [hT, path_lo _ (by rw [List.length_drop, lvs_len]; omega), lvs_take]; rfl
        · refine ret_goes (Γ := Γ) hP hZ hWb (by kernel_rfl) ⟨0, ?_⟩
          have hp : paC2 N (l.drop (split l.length)) ((n - split l.length : Nat) : Int) = true := paC2_of hd (by rw [List.length_drop]; omega) (by omega) (by rw [List.length_drop]; omega)
          have hr : roomB ((dgs (pathT (lvs (l.drop (split l.length))) (n - split l.length))).length + 1) 32 = true := by
            have := path_le _ (lvs (l.drop (split l.length))) (n - split l.length) (Nat.le_refl _)
            rw [lvs_len, List.length_drop] at this
            exact room32 (by rw [dgs_len]; omega)
          rw [b21, spl_len, w1]
          simp only [Int.toNat_natCast]
          rw [cutT, cutD, hl1, spC_of (by omega), decide_eq_false (show ¬ (n : Int) < ((split l.length : Nat) : Int) by omega), c_in (by omega), hp, ht, hr]
          rw [hT, dgs_app, lvs_take, lvs_drop]; rfl
    · cases hr
/-! ### growths -/
theorem grC2_ex {N : Nat} {l : List D} {m : Int} {k : Bool} (h : grC2 N l m k = true) : lvC N l = true ∧ (k && decide (m = (l.length : Int))) = false ∧ 1 ≤ m ∧ m ≤ (l.length : Int) := by
  unfold grC2 at h
  rw [Bool.and_eq_true, Bool.and_eq_true, Bool.and_eq_true, Bool.not_eq_true'] at h
  exact ⟨h.1, h.2.1, of_decide_eq_true h.2.2.1, of_decide_eq_true h.2.2.2⟩
theorem grC2_of {N : Nat} {l : List D} {m : Int} {k : Bool} (h1 : lvC N l = true) (h2 : (k && decide (m = (l.length : Int))) = false) (h3 : 1 ≤ m) (h4 : m ≤ (l.length : Int)) : grC2 N l m k = true := by
  unfold grC2
  rw [h1, h2, decide_eq_true h3, decide_eq_true h4]; rfl
theorem xGrown1_ok : SpecOK Γ ⟨22, xGrown1⟩ := by
  have hW : CallsOK Γ (W22z 0) := specs_ok (.cons spFirst_ok (.cons (spRoot_ok _) (.cons (xNo_ok 22) .nil)))
  intro args obs r obs' hr
  change xGrown1 args obs = some (true, r, obs') at hr
  unfold xGrown1 at hr
  split at hr
  · rename_i c l m k
    simp only [Option.some.injEq, Prod.mk.injEq] at hr
    obtain ⟨h0, rfl, rfl⟩ := hr
    unfold grC1 at h0
    simp only [Bool.and_eq_true, decide_eq_true_eq] at h0
    obtain ⟨rfl, rfl⟩ := h0
    refine RetX.anyc (ret_goes (Γ := Γ) hP hZ hW (by kernel_rfl) ⟨0, ?_⟩)
    rw [z22, beq_self_eq_true]; rfl
  · cases hr
theorem xGrown2_ok : ∀ N, SpecOK Γ ⟨22, xGrown2 N⟩
  | 0 => by
    intro args obs r obs' hr
    change xGrown2 0 args obs = some (true, r, obs') at hr
    unfold xGrown2 at hr
    split at hr
    · simp only [Option.some.injEq, Prod.mk.injEq] at hr
      have := (lvC_ex (grC2_ex hr.1).1).2.2
      omega
    · cases hr
  | N + 1 => by
    have hWa : CallsOK Γ (W22a N) := specs_ok (.cons spFirst_ok (.cons (spRoot_ok _) (.cons xGrown1_ok .nil)))
    have hWb : CallsOK Γ (W22b N) := specs_ok (.cons spFirst_ok (.cons (spRoot_ok _) (.cons (xGrown2_ok N) .nil)))
    intro args obs r obs' hr
    change xGrown2 (N + 1) args obs = some (true, r, obs') at hr
    unfold xGrown2 at hr
    split at hr
    · rename_i c l m k
      simp only [Option.some.injEq, Prod.mk.injEq] at hr
      obtain ⟨h0, rfl, rfl⟩ := hr
      obtain ⟨h1, h2, h3, h4⟩ := grC2_ex h0
      obtain ⟨m, rfl⟩ : ∃ q : Nat, m = (q : Int) := ⟨m.toNat, by omega⟩
      obtain ⟨_, e2, _⟩ := lvC_ex h1
      refine RetX.anyc ?_
      rw [Int.toNat_natCast]
      by_cases hm : m = l.length
      · subst hm
        have hk : k = false := by
          cases k with
          | true => rw [decide_eq_true rfl] at h2; cases h2
          | false => rfl
        subst hk
        refine ret_goes (Γ := Γ) hP hZ hWb (by kernel_rfl) ⟨0, ?_⟩
        have hT := grown_all (l := lvs l) false (by rw [lvs_len]; omega)
        rw [lvs_len] at hT
        rw [b22, beq_self_eq_true, h1, hT]; rfl
      · obtain ⟨k1, k2⟩ := split_lt (show 2 ≤ l.length by omega)
        have hT := grown_hi (l := lvs l) (m := m) k (by omega) (by rw [lvs_len]; omega)
        rw [lvs_len] at hT
        have hl1 : ((m : Int) == (l.length : Int)) = false := by rw [beq_eq_false_iff_ne]; omega
        have ht := lvC_take h1 k2
        have hd := lvC_drop h1 k1 (by omega)
        by_cases hn : m ≤ split l.length
        · rw [decide_eq_true hn, cond_true] at hT
          by_cases hs : k = true ∧ m = split l.length
          · obtain ⟨rfl, rfl⟩ := hs
            refine ret_goes (Γ := Γ) hP hZ hWa (by kernel_rfl) ⟨0, ?_⟩
            have hp : grC1 (l.take (split l.length)) ((split l.length : Nat) : Int) true = true := by
              unfold grC1
              rw [List.length_take, decide_eq_true (by omega)]; rfl
            have hg := grown_all (l := (lvs l).take (split l.length)) true (by rw [List.length_take, lvs_len]; omega)
            rw [List.length_take, lvs_len, Nat.min_eq_left (by omega)] at hg
            rw [a22, spl_len]
            simp only [Int.toNat_natCast]
            rw [cutT, cutD, hl1, spC_of (by omega), decide_eq_true (Int.le_refl _), c_in (by omega), hp, lvC_up hd]
            rw [hT, hg, lvs_drop]; rfl
          · refine ret_goes (Γ := Γ) hP hZ hWb (by kernel_rfl) ⟨0, ?_⟩
            have hp : grC2 N (l.take (split l.length)) (m : Int) k = true := by
              refine grC2_of ht ?_ (by omega) (by rw [List.length_take]; omega)
              cases k with
              | false => rfl
              | true => rw [Bool.true_and, List.length_take]; exact decide_eq_false fun h => hs ⟨rfl, by omega⟩
            have hr : roomB ((dgs (grownT (lvs (l.take (split l.length))) m k)).length + 1) 32 = true := by
              have := (grown_le _ (lvs (l.take (split l.length))) m k (Nat.le_refl _) (by omega) (by rw [lvs_len, List.length_take]; omega)).1
              rw [lvs_len, List.length_take] at this
              exact room32 (by rw [dgs_len]; omega)
            rw [b22, spl_len]
            simp only [Int.toNat_natCast]
            rw [cutT, cutD, hl1, spC_of (by omega), decide_eq_true (show (m : Int) ≤ ((split l.length : Nat) : Int) by omega), c_in (by omega), hp, lvC_up hd, hr]
            rw [hT, dgs_app, lvs_take, lvs_drop]; rfl
        · rw [decide_eq_false hn, cond_false] at hT
          have w1 : IntKind.wrap .i64 ((m : Int) - ((split l.length : Nat) : Int)) = ((m - split l.length : Nat) : Int) := by rw [wrapI (by omega) (by omega)]; omega
          refine ret_goes (Γ := Γ) hP hZ hWb (by kernel_rfl) ⟨0, ?_⟩
          have hp : grC2 N (l.drop (split l.length)) ((m - split l.length : Nat) : Int) false = true := grC2_of hd rfl (by omega) (by rw [List.length_drop]; omega)
          have hr : roomB ((dgs (grownT (lvs (l.drop (split l.length))) (m - split l.length) false)).length + 1) 32 = true := by
            have := (grown_le _ (lvs (l.drop (split l.length))) (m - split l.length) false (Nat.le_refl _) (by omega) (by rw [lvs_len, List.length_drop]; omega)).1
            rw [lvs_len, List.length_drop] at this
            exact room32 (by rw [dgs_len]; omega)
          rw [b22, spl_len, w1]
          simp only [Int.toNat_natCast]
          rw [cutT, cutD, hl1, spC_of (by omega), decide_eq_false (show ¬ (m : Int) ≤ ((split l.length : Nat) : Int) by omega), c_in (by omega), hp, lvC_up ht, hr]
          rw [hT, dgs_app, lvs_take, lvs_drop]; rfl
    · cases hr
end Go.Proofs.YtafmogdnhpnbiaaDoor.V

/- Proofs of leaves: contracts of Path, Grown, Verify, Follows. -/
namespace Go.Proofs.YtafmogdnhpnbiaaDoor.V
open Go
set_option maxRecDepth 100000
set_option linter.unusedVariables false
set_option linter.unusedSimpArgs false
theorem spClip_ok : SpecOK Γ ⟨20, dat spClip⟩ := dat_ok fun args r hr => by
  unfold spClip at hr
  split at hr
  · rename_i c l
    simp only [Option.some.injEq, Prod.mk.injEq] at hr
    obtain ⟨_, rfl⟩ := hr
    refine RetX.anyc (RetX.wk (r := .sl 35 .cl l) (ret_goes (Γ := Γ) hP hZ none_ok (by kernel_rfl) ⟨0, ?_⟩) (WkA.sl _ _ _))
    rw [w20, c_all, c_all2, nbeq, all_eq]; rfl
  · cases hr
def ptC (l : List D) : Bool := lvC 536870914 l
def ptN (l : List D) (n : Int) : Bool := decide (n < 0) || decide (n ≥ (l.length : Int))
def ptR (l : List D) (n : Int) : List D := bif ptN l n then [] else dgs (pathT (lvs l) n.toNat)
def ptE (l : List D) (n : Int) : Int := bif ptN l n then 1 else 0
def spPath : List AV → Option (Bool × AV)
  | [.sl 39 _ l, .i .i64 n] => some (ptC l, .tuple [.sl 35 .any (ptR l n), .i .i64 (ptE l n)])
  | _ => none
def gwN (l : List D) (n : Int) : Bool := decide (n < 1) || decide (n > (l.length : Int))
def gwR (l : List D) (n : Int) : List D := bif gwN l n then [] else dgs (grownT (lvs l) n.toNat true)
def gwE (l : List D) (n : Int) : Int := bif gwN l n then 1 else 0
def spGrown : List AV → Option (Bool × AV)
  | [.sl 39 _ l, .i .i64 n] => some (ptC l, .tuple [.sl 35 .any (gwR l n), .i .i64 (gwE l n)])
  | _ => none
theorem nil_tuple {e : TypeId} {k : Int} {P : Program} : WkA P (.tuple [.snil, .i .i64 k]) (.tuple [.sl e .any [], .i .i64 k]) := WkA.tuple (.cons (WkA.nil e) (.cons (WkA.refl _) .nil))
theorem W8a_ok : CallsOK Γ W8a := specs_ok (.cons spClip_ok (.cons xPath1_ok .nil))
theorem W8b_ok (N : Nat) : CallsOK Γ (W8b N) := specs_ok (.cons spClip_ok (.cons (xPath2_ok N) .nil))
theorem W9a_ok : CallsOK Γ W9a := specs_ok (.cons spClip_ok (.cons xGrown1_ok .nil))
theorem W9b_ok (N : Nat) : CallsOK Γ (W9b N) := specs_ok (.cons spClip_ok (.cons (xGrown2_ok N) .nil))
theorem spPath_ok : SpecOK Γ ⟨8, dat spPath⟩ := dat_ok fun args r hr => by
  unfold spPath at hr
  split at hr
  · rename_i c l n
    simp only [Option.some.injEq, Prod.mk.injEq] at hr
    obtain ⟨h0, rfl⟩ := hr
    refine RetX.anyc ?_
    unfold ptR ptE ptN
    by_cases h1 : n < 0
    · rw [decide_eq_true h1]
      refine RetX.wk (ret_goes (Γ := Γ) hP hZ W8a_ok (by kernel_rfl) ⟨0, ?_⟩) nil_tuple
      rw [a8, decide_eq_true h1]; rfl
    · by_cases h2 : n ≥ (l.length : Int)
      · rw [decide_eq_true h2, Bool.or_true]
        refine RetX.wk (ret_goes (Γ := Γ) hP hZ W8a_ok (by kernel_rfl) ⟨0, ?_⟩) nil_tuple
        rw [a8, decide_eq_false h1, decide_eq_true h2]; rfl
      · rw [decide_eq_false h1, decide_eq_false h2]
        obtain ⟨m, rfl⟩ : ∃ m : Nat, n = (m : Int) := ⟨n.toNat, by omega⟩
        by_cases hl : l.length = 1
        · refine ret_goes (Γ := Γ) hP hZ W8a_ok (by kernel_rfl) ⟨0, ?_⟩
          rw [a8, decide_eq_false h1, decide_eq_false h2, show paC1 l = true from decide_eq_true hl, Int.toNat_natCast, path_lo m (by rw [lvs_len]; omega)]; rfl
        · refine ret_goes (Γ := Γ) hP hZ (W8b_ok 536870914) (by kernel_rfl) ⟨0, ?_⟩
          rw [b8, decide_eq_false h1, decide_eq_false h2, paC2_of h0 (by omega) (by omega) (by omega)]; rfl
  · cases hr
theorem spGrown_ok : SpecOK Γ ⟨9, dat spGrown⟩ := dat_ok fun args r hr => by
  unfold spGrown at hr
  split at hr
  · rename_i c l n
    simp only [Option.some.injEq, Prod.mk.injEq] at hr
    obtain ⟨h0, rfl⟩ := hr
    refine RetX.anyc ?_
    unfold gwR gwE gwN
    by_cases h1 : n < 1
    · rw [decide_eq_true h1]
      refine RetX.wk (ret_goes (Γ := Γ) hP hZ W9a_ok (by kernel_rfl) ⟨0, ?_⟩) nil_tuple
      rw [a9, decide_eq_true h1]; rfl
    · by_cases h2 : n > (l.length : Int)
      · rw [decide_eq_true h2, Bool.or_true]
        refine RetX.wk (ret_goes (Γ := Γ) hP hZ W9a_ok (by kernel_rfl) ⟨0, ?_⟩) nil_tuple
        rw [a9, decide_eq_false h1, decide_eq_true h2]; rfl
      · rw [decide_eq_false h1, decide_eq_false h2]
        obtain ⟨m, rfl⟩ : ∃ m : Nat, n = (m : Int) := ⟨n.toNat, by omega⟩
        by_cases hl : m = l.length
        · subst hl
          refine ret_goes (Γ := Γ) hP hZ W9a_ok (by kernel_rfl) ⟨0, ?_⟩
          have hg := grown_all (l := lvs l) true (by rw [lvs_len]; omega)
          rw [lvs_len] at hg
          rw [a9, decide_eq_false h1, decide_eq_false h2, show grC1 l (l.length : Int) true = true from decide_eq_true rfl, Int.toNat_natCast, hg]; rfl
        · refine ret_goes (Γ := Γ) hP hZ (W9b_ok 536870914) (by kernel_rfl) ⟨0, ?_⟩
          rw [b9, decide_eq_false h1, decide_eq_false h2, grC2_of h0 (by rw [Bool.true_and]; exact decide_eq_false (by omega)) (by omega) (by omega)]; rfl
  · cases hr
/-! ### does it lead there? -/
theorem eqDs_bytes : ∀ (a b : Tx), eqDs (bytesD a) (bytesD b) = (a == b)
  | [], [] => rfl
  | [], _ :: _ => rfl
  | _ :: _, [] => rfl
  | x :: a, y :: b => by
    show ((x.toNat : Int) == (y.toNat : Int) && eqDs (bytesD a) (bytesD b)) = (x :: a == y :: b)
    rw [eqDs_bytes a b, List.cons_beq_cons]
    congr 1
    by_cases h : x = y
    · subst h; simp
    · have : (x.toNat : Int) ≠ (y.toNat : Int) := fun hh => h (UInt8.toNat_inj.1 (by omega))
      rw [beq_eq_false_iff_ne.2 this, beq_eq_false_iff_ne.2 h]
theorem eqD_bytes (a : Tx) {r : List D} (hr : isDg r = true) : eqD (D.agg (bytesD a)) (D.agg r) = (a == unB r) := by
  rw [isBy_eq (dg_ex hr).1, unB_bytesD]
  exact eqDs_bytes _ _
def vfC (r b : List D) (m : Int) (l : List D) : Bool := isDg r && (lfC b && (isDs l && decide (m ≤ 1073741824)))
def vfT (r : Tx) (x : Tx × List Tx × Bool) : Bool := !x.2.2 && (x.2.1.isEmpty && x.1 == r)
def vfB (r b : List D) (n m : Int) (l : List D) : Bool := bif decide (n < 0) || decide (n ≥ m) then false else vfT (unB r) (climbT (unDs l) false (leafT (unB b)) n.toNat m.toNat)
def spVer : List AV → Option (Bool × AV)
  | [.d 35 (.agg r), .sl 5 _ b, .i .i64 n, .i .i64 m, .sl 35 _ l] => some (vfC r b m l, .b (vfB r b n m l))
  | [.d 35 (.agg r), .sl 5 _ b, .i .i64 n, .i .i64 m, .snil] => some (vfC r b m [], .b (vfB r b n m []))
  | _ => none
theorem len_emp {l : List Tx} : (((dgs l).length : Int) == 0) = l.isEmpty := by
  cases l with
  | nil => rfl
  | cons a r => rw [dgs_len]; exact beq_eq_false_iff_ne.2 (by simp; omega)
theorem W17_ok (N : Nat) : CallsOK Γ (W17 N) := specs_ok (.cons spLeaf_ok (.cons (xClimb_ok N) .nil))
theorem W17n_ok (N : Nat) : CallsOK Γ (W17n N) := specs_ok (.cons spLeaf_ok (.cons (xClimb_ok N) .nil))
theorem ver_tree {r b l : List D} {n m : Int} (h1 : isDg r = true) (h3 : isDs l = true) (hn : 0 ≤ n) (hm : n < m) (h4 : m ≤ 1073741824) :
    (bif clC 1073741824 l false (bytesD (leafT (unB b))) n m then (bif !(clB l false (bytesD (leafT (unB b))) n m) then (bif (((clL l false (bytesD (leafT (unB b))) n m).length : Int) == 0) then (some (AV.b (eqD (D.agg (clD l false (bytesD (leafT (unB b))) n m)) (D.agg r)), ([] : Objs))) else (some (.b false, []))) else (some (.b false, []))) else none)
    = some (.b (vfT (unB r) (climbT (unDs l) false (leafT (unB b)) n.toNat m.toNat)), []) := by
  rw [clC_of h3 (dg_of (leafT_len _)) hn hm (by omega) h4]
  unfold clB clL clD clT vfT
  rw [unB_bytesD, len_emp, eqD_bytes _ h1]
  cases (climbT (unDs l) false (leafT (unB b)) n.toNat m.toNat).2.2 <;> cases (climbT (unDs l) false (leafT (unB b)) n.toNat m.toNat).2.1.isEmpty <;> rfl
theorem spVer_ok : SpecOK Γ ⟨17, dat spVer⟩ := dat_ok fun args r hr => by
  unfold spVer at hr
  split at hr
  · rename_i r c b n m c' l
    simp only [Option.some.injEq, Prod.mk.injEq] at hr
    obtain ⟨h0, rfl⟩ := hr
    unfold vfC at h0
    simp only [Bool.and_eq_true, decide_eq_true_eq] at h0
    obtain ⟨h1, h2, h3, h4⟩ := h0
    refine RetX.args (args := [.d 35 (.agg r), .sl 5 .any b, .i .i64 n, .i .i64 m, .sl 35 .any l]) (ret_goes (Γ := Γ) hP hZ (W17_ok 1073741824) (by kernel_rfl) ⟨0, ?_⟩) (.cons (WkA.refl _) (.cons (WkA.sl _ _ _) (.cons (WkA.refl _) (.cons (WkA.refl _) (.cons (WkA.sl _ _ _) .nil)))))
    rw [w17]
    unfold vfB
    by_cases a1 : n < 0
    · rw [decide_eq_true a1]; rfl
    · by_cases a2 : n ≥ m
      · rw [decide_eq_false a1, decide_eq_true a2]; rfl
      · rw [decide_eq_false a1, decide_eq_false a2, h2, cond_false, cond_false, cond_true]
        exact ver_tree h1 h3 (by omega) (by omega) h4
  · rename_i r c b n m
    simp only [Option.some.injEq, Prod.mk.injEq] at hr
    obtain ⟨h0, rfl⟩ := hr
    unfold vfC at h0
    simp only [Bool.and_eq_true, decide_eq_true_eq] at h0
    obtain ⟨h1, h2, h3, h4⟩ := h0
    refine RetX.args (args := [.d 35 (.agg r), .sl 5 .any b, .i .i64 n, .i .i64 m, .snil]) (ret_goes (Γ := Γ) hP hZ (W17n_ok 1073741824) (by kernel_rfl) ⟨0, ?_⟩) (.cons (WkA.refl _) (.cons (WkA.sl _ _ _) (.cons (WkA.refl _) (.cons (WkA.refl _) (.cons (WkA.refl _) .nil)))))
    rw [n17]
    unfold vfB
    by_cases a1 : n < 0
    · rw [decide_eq_true a1]; rfl
    · by_cases a2 : n ≥ m
      · rw [decide_eq_false a1, decide_eq_true a2]; rfl
      · rw [decide_eq_false a1, decide_eq_false a2, h2, cond_false, cond_false, cond_true]
        exact ver_tree h1 h3 (by omega) (by omega) h4
  · cases hr
def flC (o r : List D) (n : Int) (l : List D) : Bool := isDg o && (isDg r && (isDs l && decide (n ≤ 1073741824)))
def flT (o r : Tx) (x : Tx × Tx × List Tx × Bool) : Bool := !x.2.2.2 && (x.2.2.1.isEmpty && (x.1 == o && x.2.1 == r))
def flB (o : List D) (m : Int) (r : List D) (n : Int) (l : List D) : Bool := bif decide (m < 1) || decide (m > n) then false else flT (unB o) (unB r) (bothT (unDs l) false (unB o) m.toNat n.toNat true)
def spFol : List AV → Option (Bool × AV)
  | [.d 35 (.agg o), .i .i64 m, .d 35 (.agg r), .i .i64 n, .sl 35 _ l] => some (flC o r n l, .b (flB o m r n l))
  | _ => none
theorem W18_ok (N : Nat) : CallsOK Γ (W18 N) := specs_ok (.cons (xBoth_ok N) .nil)
theorem spFol_ok : SpecOK Γ ⟨18, dat spFol⟩ := dat_ok fun args r hr => by
  unfold spFol at hr
  split at hr
  · rename_i o m r n c l
    simp only [Option.some.injEq, Prod.mk.injEq] at hr
    obtain ⟨h0, rfl⟩ := hr
    unfold flC at h0
    simp only [Bool.and_eq_true, decide_eq_true_eq] at h0
    obtain ⟨h1, h2, h3, h4⟩ := h0
    refine RetX.args (args := [.d 35 (.agg o), .i .i64 m, .d 35 (.agg r), .i .i64 n, .sl 35 .any l]) (ret_goes (Γ := Γ) hP hZ (W18_ok 1073741824) (by kernel_rfl) ⟨0, ?_⟩) (.cons (WkA.refl _) (.cons (WkA.refl _) (.cons (WkA.refl _) (.cons (WkA.refl _) (.cons (WkA.sl _ _ _) .nil)))))
    rw [w18]
    unfold flB
    by_cases a1 : m < 1
    · rw [decide_eq_true a1]; rfl
    · by_cases a2 : m > n
      · rw [decide_eq_false a1, decide_eq_true a2]; rfl
      · rw [decide_eq_false a1, decide_eq_false a2, boC_of h3 h1 (by omega) (by omega) (by omega) h4]
        unfold boB boL boD1 boD2 boT flT
        rw [len_emp, eqD_bytes _ h1, eqD_bytes _ h2]
        cases (bothT (unDs l) false (unB o) m.toNat n.toNat true).2.2.2 <;> cases (bothT (unDs l) false (unB o) m.toNat n.toNat true).2.2.1.isEmpty <;> cases (bothT (unDs l) false (unB o) m.toNat n.toNat true).1 == unB o <;> rfl
  · cases hr
end Go.Proofs.YtafmogdnhpnbiaaDoor.V

/- The document's digest: the contracts' shapes; what the machine over values makes of the functions: equations, written by program. -/
namespace Go.Proofs.YtafmogdnhpnbiaaDoor.V
open Go
set_option maxRecDepth 100000
set_option linter.unusedVariables false
set_option linter.unusedSimpArgs false
/-! ### the document's numbers -/
def mulT (x y o c : Int) : Int := IntKind.wrap .u64 (IntKind.wrap .u64 (IntKind.wrap .u64 (x * y) + o) + c)
def lowT (t : Int) : Int := IntKind.wrap .u64 ((BitVec.ofInt 64 t &&& BitVec.ofInt 64 4294967295).toNat : Int)
def tmIn (x : Int) (i : Nat) : List Int → Nat → Int → List Int → List Int × Int
  | [], _, c, L => (L, c)
  | y :: r, k, c, L => tmIn x i r (k + 1) (shrV .u64 (mulT x y (L.getD (i + k) 0) c) 32) (L.set (i + k) (lowT (mulT x y (L.getD (i + k) 0) c)))
def tmOut (b : List Int) : List Int → Nat → List Int → List Int
  | [], _, L => L
  | x :: r, i, L => tmOut b r (i + 1) ((tmIn x i b 0 0 L).1.set (i + b.length) (IntKind.wrap .u64 ((tmIn x i b 0 0 L).1.getD (i + b.length) 0 + (tmIn x i b 0 0 L).2)))
def timesI (a b : List Int) : List Int := tmOut b a 0 (List.replicate (a.length + b.length) 0)
def unI : List D → List Int
  | [] => []
  | .int _ n :: r => n :: unI r
  | _ :: r => 0 :: unI r
def isU1 : D → Bool
  | .int .u64 _ => true
  | _ => false
def intD (l : List Int) : List D := l.map (D.int .u64)
def tmC (a b : List D) : Bool := (a.all isU1 && b.all isU1) && (decide (a.length ≤ 1000) && decide (b.length ≤ 1000))
def tmD (a b : List D) : List D := intD (timesI (unI a) (unI b))
def spTimes : List AV → Option (Bool × AV)
  | [.sl 57 _ a, .sl 57 _ b] => some (tmC a b, .sl 57 .any (tmD a b))
  | _ => none
def abL (p : Int) (pl : Nat) : List Int → Nat → Int → Bool → Bool
  | [], _, w, r => bif decide (w > p) then true else bif w == p then r else false
  | x :: l, i, w, r => bif decide (i < pl) then abL p pl l (i + 1) w (r || x != 0) else bif decide (i = pl) then abL p pl l (i + 1) x r else bif x != 0 then true else abL p pl l (i + 1) w r
def halves (y : Int) : List Int := [lowT y, shrV .u64 y 32]
def abI (y p : Int) (t : Bool) : Bool := bif t then abL p 3 (timesI (timesI (halves y) (halves y)) (halves y)) 0 0 false else abL p 2 (timesI (halves y) (halves y)) 0 0 false
def spAbove : List AV → Option (Bool × AV)
  | [.i .u64 y, .i .u64 p, .b t] => some (true, .b (abI y p t))
  | _ => none
def roY (x : Int) (b : Nat) : Int := IntKind.wrap .u64 (x + shlV .u64 1 (b : Int))
def roL (p : Int) (t : Bool) : Nat → Int → Int
  | 0, x => IntKind.wrap .u32 x
  | b + 1, x => bif !(abI (roY x b) p t) then roL p t b (roY x b) else roL p t b x
def roU (p : Int) (t : Bool) : Int := roL p t 40 0
def spRoots : List AV → Option (Bool × AV)
  | [.i .u64 p, .b t] => some (true, .i .u32 (roU p t))
  | _ => none
def P64 : List Int := [2, 3, 5, 7, 11, 13, 17, 19, 23, 29, 31, 37, 41, 43, 47, 53, 59, 61, 67, 71, 73, 79, 83, 89, 97, 101, 103, 107, 109, 113, 127, 131, 137, 139, 149, 151, 157, 163, 167, 173, 179, 181, 191, 193, 197, 199, 211, 223, 227, 229, 233, 239, 241, 251, 257, 263, 269, 271, 277, 281, 283, 293, 307, 311]
def prC (n : Int) : Bool := n == 64
def spPrimes : List AV → Option (Bool × AV)
  | [.i .i64 n] => some (prC n, .sl 57 .any (intD P64))
  | _ => none
def rtC (n : Int) : Bool := decide (0 ≤ n)
def rotU (w n : Int) : Int := orU (shrV .u32 w n) (shlV .u32 w (IntKind.wrap .u64 (32 - n)))
def spRot : List AV → Option (Bool × AV)
  | [.i .u32 w, .i .u64 n] => some (rtC n, .i .u32 (rotU w n))
  | _ => none
def isU2 : D → Bool
  | .int .u32 _ => true
  | _ => false
def bkC (h k b : List D) : Bool := isW h && ((k.all isU2 && (unI k == facs)) && b64 b)
def spBlock : List AV → Option (Bool × AV)
  | [.sl 55 _ h, .sl 55 _ k, .sl 5 _ b] => some (bkC h k b, .sl 55 .any (mixD h b))
  | _ => none
def rfC (b : List D) : Bool := isBy b && decide (b.length ≤ 1099511627776)
def spRef : List AV → Option (Bool × AV)
  | [.sl 5 _ b] => some (rfC b, .d 35 (.agg (bytesD (shaT (unB b)))))
  | _ => none
def spDig : List AV → Option (Bool × AV)
  | [.d 35 (.agg d)] => some (isDg d, .s (unB d))
  | _ => none
theorem w38 (lab : Lab) (w : Int) (n : Int) : evF Γ (runS []) lab 38 [.i .u32 w, .i .u64 n] [] =
  bif decide ((0:Int) ≤ n) then (bif decide ((0:Int) ≤ (IntKind.wrap .u64 (32 - n))) then (some (.i .u32 (orU (shrV .u32 w n) (shlV .u32 w (IntKind.wrap .u64 (32 - n)))), [])) else none) else none := by kernel_rfl
theorem w44 (lab : Lab) (a : List D) (b : List D) : evF Γ (runS []) lab 44 [.sl 57 .any a, .sl 57 .any b] [] =
  bif decide ((0:Int) ≤ (IntKind.wrap .i64 (((a.length : Int)) + ((b.length : Int))))) && decide ((IntKind.wrap .i64 (((a.length : Int)) + ((b.length : Int)))) ≤ (IntKind.wrap .i64 (((a.length : Int)) + ((b.length : Int))))) && roomB (Int.toNat (IntKind.wrap .i64 (((a.length : Int)) + ((b.length : Int))))) 8 then (lab (todoAt Γ 44 3) ⟨[(0, .sl 57 .any a), (1, .sl 57 .any b), (5, .ref 57 0), (6, .i .i64 0)], [some (.arr 57 (List.replicate (Int.toNat (IntKind.wrap .i64 (((a.length : Int)) + ((b.length : Int))))) (D.int .u64 0)) false)]⟩) else none := by kernel_rfl
theorem w44_3a (lab : Lab) (l1 : List D) (l2 : List D) (n3 : Int) (l4 : List D) : evL Γ (runS []) lab 44 3 ⟨[(0, .sl 57 .any l1), (1, .sl 57 .any l2), (5, .ref 57 0), (6, .i .i64 n3)], [some (.arr 57 l4 false)]⟩ =
  bif decide (n3 < ((l1.length : Int))) then (lab (todoAt Γ 44 7) ⟨[(0, .sl 57 .any l1), (1, .sl 57 .any l2), (5, .ref 57 0), (6, .i .i64 n3), (7, .i .u64 0), (8, .i .i64 0)], [some (.arr 57 l4 false)]⟩) else (some (.sl 57 .any l4, [])) := by kernel_rfl
theorem w44_7a (lab : Lab) (l1 : List D) (l2 : List D) (n3 : Int) (n4 : Int) (n5 : Int) (l6 : List D) : evL Γ (runS []) lab 44 7 ⟨[(0, .sl 57 .any l1), (1, .sl 57 .any l2), (5, .ref 57 0), (6, .i .i64 n3), (7, .i .u64 n4), (8, .i .i64 n5)], [some (.arr 57 l6 false)]⟩ =
  bif decide (n5 < ((l2.length : Int))) then (idx l1 n3 fun y7 => dInt .u64 y7 fun n8 => idx l2 n5 fun y9 => dInt .u64 y9 fun n10 => bif decide ((0:Int) ≤ (IntKind.wrap .i64 (n3 + n5))) && decide ((IntKind.wrap .i64 (n3 + n5)) < (l6.length : Int)) then (lGet l6 (Int.toNat (IntKind.wrap .i64 (n3 + n5))) fun y11 => dInt .u64 y11 fun n12 => bif decide ((0:Int) ≤ (IntKind.wrap .i64 (n3 + n5))) && decide ((IntKind.wrap .i64 (n3 + n5)) < (l6.length : Int)) then (lGet l6 (Int.toNat (IntKind.wrap .i64 (n3 + n5))) fun y13 => lab (todoAt Γ 44 7) ⟨[(0, .sl 57 .any l1), (1, .sl 57 .any l2), (5, .ref 57 0), (6, .i .i64 n3), (7, .i .u64 (shrV .u64 (IntKind.wrap .u64 ((IntKind.wrap .u64 ((IntKind.wrap .u64 (n8 * n10)) + n12)) + n4)) 32)), (8, .i .i64 (IntKind.wrap .i64 (n5 + 1)))], [some (.arr 57 (List.set l6 (Int.toNat (IntKind.wrap .i64 (n3 + n5))) (D.int .u64 (IntKind.wrap .u64 ((BitVec.ofInt 64 (IntKind.wrap .u64 ((IntKind.wrap .u64 ((IntKind.wrap .u64 (n8 * n10)) + n12)) + n4)) &&& BitVec.ofInt 64 4294967295).toNat : Int)))) false)]⟩) else none) else none) else (bif decide ((0:Int) ≤ (IntKind.wrap .i64 (n3 + ((l2.length : Int))))) && decide ((IntKind.wrap .i64 (n3 + ((l2.length : Int)))) < (l6.length : Int)) then (lGet l6 (Int.toNat (IntKind.wrap .i64 (n3 + ((l2.length : Int))))) fun y14 => dInt .u64 y14 fun n15 => bif decide ((0:Int) ≤ (IntKind.wrap .i64 (n3 + ((l2.length : Int))))) && decide ((IntKind.wrap .i64 (n3 + ((l2.length : Int)))) < (l6.length : Int)) then (lGet l6 (Int.toNat (IntKind.wrap .i64 (n3 + ((l2.length : Int))))) fun y16 => lab (todoAt Γ 44 3) ⟨[(0, .sl 57 .any l1), (1, .sl 57 .any l2), (5, .ref 57 0), (6, .i .i64 (IntKind.wrap .i64 (n3 + 1)))], [some (.arr 57 (List.set l6 (Int.toNat (IntKind.wrap .i64 (n3 + ((l2.length : Int))))) (D.int .u64 (IntKind.wrap .u64 (n15 + n4)))) false)]⟩) else none) else none) := by kernel_rfl
def W37 : Handle := runS [⟨44, dat spTimes⟩]
theorem w37 (lab : Lab) (v : Int) (p : Int) (t : Bool) : evF Γ W37 lab 37 [.i .u64 v, .i .u64 p, .b t] [] =
  bif tmC [D.int .u64 (IntKind.wrap .u64 ((BitVec.ofInt 64 v &&& BitVec.ofInt 64 4294967295).toNat : Int)), D.int .u64 (shrV .u64 v 32)] [D.int .u64 (IntKind.wrap .u64 ((BitVec.ofInt 64 v &&& BitVec.ofInt 64 4294967295).toNat : Int)), D.int .u64 (shrV .u64 v 32)] then (bif t then (bif tmC ((tmD [D.int .u64 (IntKind.wrap .u64 ((BitVec.ofInt 64 v &&& BitVec.ofInt 64 4294967295).toNat : Int)), D.int .u64 (shrV .u64 v 32)] [D.int .u64 (IntKind.wrap .u64 ((BitVec.ofInt 64 v &&& BitVec.ofInt 64 4294967295).toNat : Int)), D.int .u64 (shrV .u64 v 32)])) [D.int .u64 (IntKind.wrap .u64 ((BitVec.ofInt 64 v &&& BitVec.ofInt 64 4294967295).toNat : Int)), D.int .u64 (shrV .u64 v 32)] then (lab (todoAt Γ 37 10) ⟨[(1, .i .u64 p), (8, .sl 57 .any ((tmD ((tmD [D.int .u64 (IntKind.wrap .u64 ((BitVec.ofInt 64 v &&& BitVec.ofInt 64 4294967295).toNat : Int)), D.int .u64 (shrV .u64 v 32)] [D.int .u64 (IntKind.wrap .u64 ((BitVec.ofInt 64 v &&& BitVec.ofInt 64 4294967295).toNat : Int)), D.int .u64 (shrV .u64 v 32)])) [D.int .u64 (IntKind.wrap .u64 ((BitVec.ofInt 64 v &&& BitVec.ofInt 64 4294967295).toNat : Int)), D.int .u64 (shrV .u64 v 32)]))), (9, .i .i64 3), (10, .i .u64 0), (11, .b false), (12, .i .i64 0)], []⟩) else none) else (lab (todoAt Γ 37 10) ⟨[(1, .i .u64 p), (8, .sl 57 .any ((tmD [D.int .u64 (IntKind.wrap .u64 ((BitVec.ofInt 64 v &&& BitVec.ofInt 64 4294967295).toNat : Int)), D.int .u64 (shrV .u64 v 32)] [D.int .u64 (IntKind.wrap .u64 ((BitVec.ofInt 64 v &&& BitVec.ofInt 64 4294967295).toNat : Int)), D.int .u64 (shrV .u64 v 32)]))), (9, .i .i64 2), (10, .i .u64 0), (11, .b false), (12, .i .i64 0)], []⟩)) else none := by kernel_rfl
theorem w37_10a (lab : Lab) (n1 : Int) (l2 : List D) (n3 : Int) (n4 : Int) (b5 : Bool) (n6 : Int) : evL Γ W37 lab 37 10 ⟨[(1, .i .u64 n1), (8, .sl 57 .any l2), (9, .i .i64 n3), (10, .i .u64 n4), (11, .b b5), (12, .i .i64 n6)], []⟩ =
  bif decide (n6 < ((l2.length : Int))) then (bif decide (n6 < n3) then (bif b5 then (lab (todoAt Γ 37 10) ⟨[(1, .i .u64 n1), (8, .sl 57 .any l2), (9, .i .i64 n3), (10, .i .u64 n4), (11, .b true), (12, .i .i64 (IntKind.wrap .i64 (n6 + 1)))], []⟩) else (idx l2 n6 fun y7 => dInt .u64 y7 fun n8 => lab (todoAt Γ 37 10) ⟨[(1, .i .u64 n1), (8, .sl 57 .any l2), (9, .i .i64 n3), (10, .i .u64 n4), (11, .b (n8 != 0)), (12, .i .i64 (IntKind.wrap .i64 (n6 + 1)))], []⟩)) else (bif n6 == n3 then (idx l2 n6 fun y9 => dInt .u64 y9 fun n10 => lab (todoAt Γ 37 10) ⟨[(1, .i .u64 n1), (8, .sl 57 .any l2), (9, .i .i64 n3), (10, .i .u64 n10), (11, .b b5), (12, .i .i64 (IntKind.wrap .i64 (n6 + 1)))], []⟩) else (idx l2 n6 fun y11 => dInt .u64 y11 fun n12 => bif n12 != 0 then (some (.b true, [])) else (lab (todoAt Γ 37 10) ⟨[(1, .i .u64 n1), (8, .sl 57 .any l2), (9, .i .i64 n3), (10, .i .u64 n4), (11, .b b5), (12, .i .i64 (IntKind.wrap .i64 (n6 + 1)))], []⟩)))) else (bif decide (n4 > n1) then (some (.b true, [])) else (bif n4 == n1 then (some (.b b5, [])) else (some (.b false, [])))) := by kernel_rfl
def W29 : Handle := runS [⟨37, dat spAbove⟩]
theorem w29 (lab : Lab) (p : Int) (t : Bool) : evF Γ W29 lab 29 [.i .u64 p, .b t] [] =
  lab (todoAt Γ 29 3) ⟨[(0, .i .u64 p), (1, .b t), (5, .i .u64 0), (6, .i .i64 39)], []⟩ := by kernel_rfl
theorem w29_3a (lab : Lab) (n1 : Int) (b2 : Bool) (n3 : Int) (n4 : Int) : evL Γ W29 lab 29 3 ⟨[(0, .i .u64 n1), (1, .b b2), (5, .i .u64 n3), (6, .i .i64 n4)], []⟩ =
  bif decide (n4 ≥ 0) then (bif decide ((0:Int) ≤ (IntKind.wrap .u64 n4)) then (bif !(abI (IntKind.wrap .u64 (n3 + (shlV .u64 1 (IntKind.wrap .u64 n4)))) n1 b2) then (lab (todoAt Γ 29 3) ⟨[(0, .i .u64 n1), (1, .b b2), (5, .i .u64 (IntKind.wrap .u64 (n3 + (shlV .u64 1 (IntKind.wrap .u64 n4))))), (6, .i .i64 (IntKind.wrap .i64 (n4 - 1)))], []⟩) else (lab (todoAt Γ 29 3) ⟨[(0, .i .u64 n1), (1, .b b2), (5, .i .u64 n3), (6, .i .i64 (IntKind.wrap .i64 (n4 - 1)))], []⟩)) else none) else (some (.i .u32 (IntKind.wrap .u32 n3), [])) := by kernel_rfl
theorem w28 (lab : Lab) (n : Int) : evF Γ (runS []) lab 28 [.i .i64 n] [] =
  lab (todoAt Γ 28 3) ⟨[(0, .i .i64 n), (3, .ref 57 0), (4, .i .u64 2)], [some (.arr 57 [] false)]⟩ := by kernel_rfl
theorem w28_3a (lab : Lab) (n1 : Int) (n2 : Int) (l3 : List D) : evL Γ (runS []) lab 28 3 ⟨[(0, .i .i64 n1), (3, .ref 57 0), (4, .i .u64 n2)], [some (.arr 57 l3 false)]⟩ =
  bif decide (((l3.length : Int)) < n1) then (lab (todoAt Γ 28 7) ⟨[(0, .i .i64 n1), (3, .ref 57 0), (4, .i .u64 n2), (5, .b true), (6, .i .i64 0)], [some (.arr 57 l3 false)]⟩) else (some (.sl 57 .any l3, [])) := by kernel_rfl
theorem w28_7a (lab : Lab) (n1 : Int) (n2 : Int) (b3 : Bool) (n4 : Int) (l5 : List D) : evL Γ (runS []) lab 28 7 ⟨[(0, .i .i64 n1), (3, .ref 57 0), (4, .i .u64 n2), (5, .b b3), (6, .i .i64 n4)], [some (.arr 57 l5 false)]⟩ =
  bif decide (n4 < ((l5.length : Int))) then (bif b3 then (bif decide ((0:Int) ≤ n4) && decide (n4 < (l5.length : Int)) then (lGet l5 (Int.toNat n4) fun y6 => dInt .u64 y6 fun n7 => bif n7 == 0 then none else (lab (todoAt Γ 28 7) ⟨[(0, .i .i64 n1), (3, .ref 57 0), (4, .i .u64 n2), (5, .b ((Int.tmod n2 n7) != 0)), (6, .i .i64 (IntKind.wrap .i64 (n4 + 1)))], [some (.arr 57 l5 false)]⟩)) else none) else (lab (todoAt Γ 28 7) ⟨[(0, .i .i64 n1), (3, .ref 57 0), (4, .i .u64 n2), (5, .b false), (6, .i .i64 (IntKind.wrap .i64 (n4 + 1)))], [some (.arr 57 l5 false)]⟩)) else (bif b3 then (bif roomB (l5.length + 1) 8 then (lab (todoAt Γ 28 3) ⟨[(0, .i .i64 n1), (3, .ref 57 0), (4, .i .u64 (IntKind.wrap .u64 (n2 + 1)))], [some (.arr 57 (l5 ++ [D.int .u64 n2]) false)]⟩) else none) else (lab (todoAt Γ 28 3) ⟨[(0, .i .i64 n1), (3, .ref 57 0), (4, .i .u64 (IntKind.wrap .u64 (n2 + 1)))], [some (.arr 57 l5 false)]⟩)) := by kernel_rfl
def W30 : Handle := runS [⟨38, dat spRot⟩]
theorem w30 (lab : Lab) (h : List D) (k : List D) (b : List D) : evF Γ W30 lab 30 [.sl 55 .any h, .sl 55 .any k, .sl 5 .any b] [] =
  lab (todoAt Γ 30 3) ⟨[(0, .sl 55 .any h), (1, .sl 55 .any k), (2, .sl 5 .any b), (7, .ref 55 0), (8, .i .i64 0)], [some (.arr 55 [D.int .u32 0, D.int .u32 0, D.int .u32 0, D.int .u32 0, D.int .u32 0, D.int .u32 0, D.int .u32 0, D.int .u32 0, D.int .u32 0, D.int .u32 0, D.int .u32 0, D.int .u32 0, D.int .u32 0, D.int .u32 0, D.int .u32 0, D.int .u32 0, D.int .u32 0, D.int .u32 0, D.int .u32 0, D.int .u32 0, D.int .u32 0, D.int .u32 0, D.int .u32 0, D.int .u32 0, D.int .u32 0, D.int .u32 0, D.int .u32 0, D.int .u32 0, D.int .u32 0, D.int .u32 0, D.int .u32 0, D.int .u32 0, D.int .u32 0, D.int .u32 0, D.int .u32 0, D.int .u32 0, D.int .u32 0, D.int .u32 0, D.int .u32 0, D.int .u32 0, D.int .u32 0, D.int .u32 0, D.int .u32 0, D.int .u32 0, D.int .u32 0, D.int .u32 0, D.int .u32 0, D.int .u32 0, D.int .u32 0, D.int .u32 0, D.int .u32 0, D.int .u32 0, D.int .u32 0, D.int .u32 0, D.int .u32 0, D.int .u32 0, D.int .u32 0, D.int .u32 0, D.int .u32 0, D.int .u32 0, D.int .u32 0, D.int .u32 0, D.int .u32 0, D.int .u32 0] false)]⟩ := by kernel_rfl
theorem w30_3a (lab : Lab) (l1 : List D) (l2 : List D) (l3 : List D) (n4 : Int) (l5 : List D) : evL Γ W30 lab 30 3 ⟨[(0, .sl 55 .any l1), (1, .sl 55 .any l2), (2, .sl 5 .any l3), (7, .ref 55 0), (8, .i .i64 n4)], [some (.arr 55 l5 false)]⟩ =
  bif decide (n4 < 16) then (idx l3 (IntKind.wrap .i64 (4 * n4)) fun y6 => dInt .u8 y6 fun n7 => idx l3 (IntKind.wrap .i64 ((IntKind.wrap .i64 (4 * n4)) + 1)) fun y8 => dInt .u8 y8 fun n9 => idx l3 (IntKind.wrap .i64 ((IntKind.wrap .i64 (4 * n4)) + 2)) fun y10 => dInt .u8 y10 fun n11 => idx l3 (IntKind.wrap .i64 ((IntKind.wrap .i64 (4 * n4)) + 3)) fun y12 => dInt .u8 y12 fun n13 => bif decide ((0:Int) ≤ n4) && decide (n4 < (l5.length : Int)) then (lGet l5 (Int.toNat n4) fun y14 => lab (todoAt Γ 30 3) ⟨[(0, .sl 55 .any l1), (1, .sl 55 .any l2), (2, .sl 5 .any l3), (7, .ref 55 0), (8, .i .i64 (IntKind.wrap .i64 (n4 + 1)))], [some (.arr 55 (List.set l5 (Int.toNat n4) (D.int .u32 (orU (orU (orU (shlV .u32 (IntKind.wrap .u32 n7) 24) (shlV .u32 (IntKind.wrap .u32 n9) 16)) (shlV .u32 (IntKind.wrap .u32 n11) 8)) (IntKind.wrap .u32 n13)))) false)]⟩) else none) else (lab (todoAt Γ 30 7) ⟨[(0, .sl 55 .any l1), (1, .sl 55 .any l2), (7, .ref 55 0), (9, .i .i64 16)], [some (.arr 55 l5 false)]⟩) := by kernel_rfl
theorem w30_7a (lab : Lab) (l1 : List D) (l2 : List D) (n3 : Int) (l4 : List D) : evL Γ W30 lab 30 7 ⟨[(0, .sl 55 .any l1), (1, .sl 55 .any l2), (7, .ref 55 0), (9, .i .i64 n3)], [some (.arr 55 l4 false)]⟩ =
  bif decide (n3 < 64) then (bif decide ((0:Int) ≤ (IntKind.wrap .i64 (n3 - 15))) && decide ((IntKind.wrap .i64 (n3 - 15)) < (l4.length : Int)) then (lGet l4 (Int.toNat (IntKind.wrap .i64 (n3 - 15))) fun y5 => dInt .u32 y5 fun n6 => bif rtC 7 then (bif decide ((0:Int) ≤ (IntKind.wrap .i64 (n3 - 15))) && decide ((IntKind.wrap .i64 (n3 - 15)) < (l4.length : Int)) then (lGet l4 (Int.toNat (IntKind.wrap .i64 (n3 - 15))) fun y7 => dInt .u32 y7 fun n8 => bif rtC 18 then (bif decide ((0:Int) ≤ (IntKind.wrap .i64 (n3 - 15))) && decide ((IntKind.wrap .i64 (n3 - 15)) < (l4.length : Int)) then (lGet l4 (Int.toNat (IntKind.wrap .i64 (n3 - 15))) fun y9 => dInt .u32 y9 fun n10 => bif decide ((0:Int) ≤ (IntKind.wrap .i64 (n3 - 2))) && decide ((IntKind.wrap .i64 (n3 - 2)) < (l4.length : Int)) then (lGet l4 (Int.toNat (IntKind.wrap .i64 (n3 - 2))) fun y11 => dInt .u32 y11 fun n12 => bif rtC 17 then (bif decide ((0:Int) ≤ (IntKind.wrap .i64 (n3 - 2))) && decide ((IntKind.wrap .i64 (n3 - 2)) < (l4.length : Int)) then (lGet l4 (Int.toNat (IntKind.wrap .i64 (n3 - 2))) fun y13 => dInt .u32 y13 fun n14 => bif rtC 19 then (bif decide ((0:Int) ≤ (IntKind.wrap .i64 (n3 - 2))) && decide ((IntKind.wrap .i64 (n3 - 2)) < (l4.length : Int)) then (lGet l4 (Int.toNat (IntKind.wrap .i64 (n3 - 2))) fun y15 => dInt .u32 y15 fun n16 => bif decide ((0:Int) ≤ (IntKind.wrap .i64 (n3 - 16))) && decide ((IntKind.wrap .i64 (n3 - 16)) < (l4.length : Int)) then (lGet l4 (Int.toNat (IntKind.wrap .i64 (n3 - 16))) fun y17 => dInt .u32 y17 fun n18 => bif decide ((0:Int) ≤ (IntKind.wrap .i64 (n3 - 7))) && decide ((IntKind.wrap .i64 (n3 - 7)) < (l4.length : Int)) then (lGet l4 (Int.toNat (IntKind.wrap .i64 (n3 - 7))) fun y19 => dInt .u32 y19 fun n20 => bif decide ((0:Int) ≤ n3) && decide (n3 < (l4.length : Int)) then (lGet l4 (Int.toNat n3) fun y21 => lab (todoAt Γ 30 7) ⟨[(0, .sl 55 .any l1), (1, .sl 55 .any l2), (7, .ref 55 0), (9, .i .i64 (IntKind.wrap .i64 (n3 + 1)))], [some (.arr 55 (List.set l4 (Int.toNat n3) (D.int .u32 (addU (addU (addU n18 (xorU (xorU (rotU n6 7) (rotU n8 18)) (shrV .u32 n10 3))) n20) (xorU (xorU (rotU n12 17) (rotU n14 19)) (shrV .u32 n16 10))))) false)]⟩) else none) else none) else none) else none) else none) else none) else none) else none) else none) else none) else none) else none) else none) else (onNil l1 (lab (todoAt Γ 30 14) ⟨[(0, .sl 55 .any l1), (1, .sl 55 .any l2), (7, .ref 55 0), (12, .sl 55 .ex []), (13, .i .i64 0)], [some (.arr 55 l4 false)]⟩) (bif roomB (0 + l1.length) 4 then (lab (todoAt Γ 30 14) ⟨[(0, .sl 55 .any l1), (1, .sl 55 .any l2), (7, .ref 55 0), (12, .ref 55 1), (13, .i .i64 0)], [some (.arr 55 l4 false), some (.arr 55 l1 false)]⟩) else none)) := by kernel_rfl
theorem w30_14a (lab : Lab) (l1 : List D) (l2 : List D) (l3 : List D) (n4 : Int) (l5 : List D) : evL Γ W30 lab 30 14 ⟨[(0, .sl 55 .any l1), (1, .sl 55 .any l2), (7, .ref 55 0), (12, .sl 55 .ex l3), (13, .i .i64 n4)], [some (.arr 55 l5 false)]⟩ =
  bif decide (n4 < 64) then (idx l3 4 fun y6 => dInt .u32 y6 fun n7 => bif rtC 6 then (idx l3 4 fun y8 => dInt .u32 y8 fun n9 => bif rtC 11 then (idx l3 4 fun y10 => dInt .u32 y10 fun n11 => bif rtC 25 then (idx l3 4 fun y12 => dInt .u32 y12 fun n13 => idx l3 5 fun y14 => dInt .u32 y14 fun n15 => idx l3 4 fun y16 => dInt .u32 y16 fun n17 => idx l3 6 fun y18 => dInt .u32 y18 fun n19 => idx l3 7 fun y20 => dInt .u32 y20 fun n21 => idx l2 n4 fun y22 => dInt .u32 y22 fun n23 => bif decide ((0:Int) ≤ n4) && decide (n4 < (l5.length : Int)) then (lGet l5 (Int.toNat n4) fun y24 => dInt .u32 y24 fun n25 => idx l3 0 fun y26 => dInt .u32 y26 fun n27 => bif rtC 2 then (idx l3 0 fun y28 => dInt .u32 y28 fun n29 => bif rtC 13 then (idx l3 0 fun y30 => dInt .u32 y30 fun n31 => bif rtC 22 then (idx l3 0 fun y32 => dInt .u32 y32 fun n33 => idx l3 1 fun y34 => dInt .u32 y34 fun n35 => idx l3 0 fun y36 => dInt .u32 y36 fun n37 => idx l3 2 fun y38 => dInt .u32 y38 fun n39 => idx l3 1 fun y40 => dInt .u32 y40 fun n41 => idx l3 2 fun y42 => dInt .u32 y42 fun n43 => idx l3 0 fun y44 => dInt .u32 y44 fun n45 => idx l3 1 fun y46 => dInt .u32 y46 fun n47 => idx l3 2 fun y48 => dInt .u32 y48 fun n49 => idx l3 3 fun y50 => dInt .u32 y50 fun n51 => idx l3 4 fun y52 => dInt .u32 y52 fun n53 => idx l3 5 fun y54 => dInt .u32 y54 fun n55 => idx l3 6 fun y56 => dInt .u32 y56 fun n57 => lab (todoAt Γ 30 14) ⟨[(0, .sl 55 .any l1), (1, .sl 55 .any l2), (7, .ref 55 0), (12, .ref 55 1), (13, .i .i64 (IntKind.wrap .i64 (n4 + 1)))], [some (.arr 55 l5 false), some (.arr 55 [D.int .u32 (addU (addU (addU (addU (addU n21 (xorU (xorU (rotU n7 6) (rotU n9 11)) (rotU n11 25))) (xorU (andU n13 n15) (andU (xorU 4294967295 n17) n19))) n23) n25) (addU (xorU (xorU (rotU n27 2) (rotU n29 13)) (rotU n31 22)) (xorU (xorU (andU n33 n35) (andU n37 n39)) (andU n41 n43)))), D.int .u32 n45, D.int .u32 n47, D.int .u32 n49, D.int .u32 (addU n51 (addU (addU (addU (addU n21 (xorU (xorU (rotU n7 6) (rotU n9 11)) (rotU n11 25))) (xorU (andU n13 n15) (andU (xorU 4294967295 n17) n19))) n23) n25)), D.int .u32 n53, D.int .u32 n55, D.int .u32 n57] false)]⟩) else none) else none) else none) else none) else none) else none) else none) else (lab (todoAt Γ 30 24) ⟨[(0, .sl 55 .any l1), (12, .sl 55 .ex l3), (20, .i .i64 0)], []⟩) := by kernel_rfl
theorem w30_14b (lab : Lab) (l1 : List D) (l2 : List D) (n3 : Int) (l4 : List D) (l5 : List D) : evL Γ W30 lab 30 14 ⟨[(0, .sl 55 .any l1), (1, .sl 55 .any l2), (7, .ref 55 0), (12, .ref 55 1), (13, .i .i64 n3)], [some (.arr 55 l4 false), some (.arr 55 l5 false)]⟩ =
  bif decide (n3 < 64) then (bif decide ((0:Int) ≤ 4) && decide (4 < (l5.length : Int)) then (lGet l5 4 fun y6 => dInt .u32 y6 fun n7 => bif rtC 6 then (bif decide ((0:Int) ≤ 4) && decide (4 < (l5.length : Int)) then (lGet l5 4 fun y8 => dInt .u32 y8 fun n9 => bif rtC 11 then (bif decide ((0:Int) ≤ 4) && decide (4 < (l5.length : Int)) then (lGet l5 4 fun y10 => dInt .u32 y10 fun n11 => bif rtC 25 then (bif decide ((0:Int) ≤ 4) && decide (4 < (l5.length : Int)) then (lGet l5 4 fun y12 => dInt .u32 y12 fun n13 => bif decide ((0:Int) ≤ 5) && decide (5 < (l5.length : Int)) then (lGet l5 5 fun y14 => dInt .u32 y14 fun n15 => bif decide ((0:Int) ≤ 4) && decide (4 < (l5.length : Int)) then (lGet l5 4 fun y16 => dInt .u32 y16 fun n17 => bif decide ((0:Int) ≤ 6) && decide (6 < (l5.length : Int)) then (lGet l5 6 fun y18 => dInt .u32 y18 fun n19 => bif decide ((0:Int) ≤ 7) && decide (7 < (l5.length : Int)) then (lGet l5 7 fun y20 => dInt .u32 y20 fun n21 => idx l2 n3 fun y22 => dInt .u32 y22 fun n23 => bif decide ((0:Int) ≤ n3) && decide (n3 < (l4.length : Int)) then (lGet l4 (Int.toNat n3) fun y24 => dInt .u32 y24 fun n25 => bif decide ((0:Int) ≤ 0) && decide (0 < (l5.length : Int)) then (lGet l5 0 fun y26 => dInt .u32 y26 fun n27 => bif rtC 2 then (bif decide ((0:Int) ≤ 0) && decide (0 < (l5.length : Int)) then (lGet l5 0 fun y28 => dInt .u32 y28 fun n29 => bif rtC 13 then (bif decide ((0:Int) ≤ 0) && decide (0 < (l5.length : Int)) then (lGet l5 0 fun y30 => dInt .u32 y30 fun n31 => bif rtC 22 then (bif decide ((0:Int) ≤ 0) && decide (0 < (l5.length : Int)) then (lGet l5 0 fun y32 => dInt .u32 y32 fun n33 => bif decide ((0:Int) ≤ 1) && decide (1 < (l5.length : Int)) then (lGet l5 1 fun y34 => dInt .u32 y34 fun n35 => bif decide ((0:Int) ≤ 0) && decide (0 < (l5.length : Int)) then (lGet l5 0 fun y36 => dInt .u32 y36 fun n37 => bif decide ((0:Int) ≤ 2) && decide (2 < (l5.length : Int)) then (lGet l5 2 fun y38 => dInt .u32 y38 fun n39 => bif decide ((0:Int) ≤ 1) && decide (1 < (l5.length : Int)) then (lGet l5 1 fun y40 => dInt .u32 y40 fun n41 => bif decide ((0:Int) ≤ 2) && decide (2 < (l5.length : Int)) then (lGet l5 2 fun y42 => dInt .u32 y42 fun n43 => bif decide ((0:Int) ≤ 0) && decide (0 < (l5.length : Int)) then (lGet l5 0 fun y44 => dInt .u32 y44 fun n45 => bif decide ((0:Int) ≤ 1) && decide (1 < (l5.length : Int)) then (lGet l5 1 fun y46 => dInt .u32 y46 fun n47 => bif decide ((0:Int) ≤ 2) && decide (2 < (l5.length : Int)) then (lGet l5 2 fun y48 => dInt .u32 y48 fun n49 => bif decide ((0:Int) ≤ 3) && decide (3 < (l5.length : Int)) then (lGet l5 3 fun y50 => dInt .u32 y50 fun n51 => bif decide ((0:Int) ≤ 4) && decide (4 < (l5.length : Int)) then (lGet l5 4 fun y52 => dInt .u32 y52 fun n53 => bif decide ((0:Int) ≤ 5) && decide (5 < (l5.length : Int)) then (lGet l5 5 fun y54 => dInt .u32 y54 fun n55 => bif decide ((0:Int) ≤ 6) && decide (6 < (l5.length : Int)) then (lGet l5 6 fun y56 => dInt .u32 y56 fun n57 => lab (todoAt Γ 30 14) ⟨[(0, .sl 55 .any l1), (1, .sl 55 .any l2), (7, .ref 55 0), (12, .ref 55 1), (13, .i .i64 (IntKind.wrap .i64 (n3 + 1)))], [some (.arr 55 l4 false), some (.arr 55 [D.int .u32 (addU (addU (addU (addU (addU n21 (xorU (xorU (rotU n7 6) (rotU n9 11)) (rotU n11 25))) (xorU (andU n13 n15) (andU (xorU 4294967295 n17) n19))) n23) n25) (addU (xorU (xorU (rotU n27 2) (rotU n29 13)) (rotU n31 22)) (xorU (xorU (andU n33 n35) (andU n37 n39)) (andU n41 n43)))), D.int .u32 n45, D.int .u32 n47, D.int .u32 n49, D.int .u32 (addU n51 (addU (addU (addU (addU n21 (xorU (xorU (rotU n7 6) (rotU n9 11)) (rotU n11 25))) (xorU (andU n13 n15) (andU (xorU 4294967295 n17) n19))) n23) n25)), D.int .u32 n53, D.int .u32 n55, D.int .u32 n57] false)]⟩) else none) else none) else none) else none) else none) else none) else none) else none) else none) else none) else none) else none) else none) else none) else none) else none) else none) else none) else none) else none) else none) else none) else none) else none) else none) else none) else none) else none) else none) else none) else none) else (lab (todoAt Γ 30 24) ⟨[(0, .sl 55 .any l1), (12, .ref 55 0), (20, .i .i64 0)], [some (.arr 55 l5 false)]⟩) := by kernel_rfl
theorem w30_24a (lab : Lab) (l1 : List D) (l2 : List D) (n3 : Int) : evL Γ W30 lab 30 24 ⟨[(0, .sl 55 .any l1), (12, .sl 55 .ex l2), (20, .i .i64 n3)], []⟩ =
  bif decide (n3 < 8) then (idx l2 n3 fun y4 => dInt .u32 y4 fun n5 => idx l1 n3 fun y6 => dInt .u32 y6 fun n7 => idx l2 n3 fun y8 => none) else (some (.sl 55 .ex l2, [])) := by kernel_rfl
theorem w30_24b (lab : Lab) (l1 : List D) (n2 : Int) (l3 : List D) : evL Γ W30 lab 30 24 ⟨[(0, .sl 55 .any l1), (12, .ref 55 0), (20, .i .i64 n2)], [some (.arr 55 l3 false)]⟩ =
  bif decide (n2 < 8) then (bif decide ((0:Int) ≤ n2) && decide (n2 < (l3.length : Int)) then (lGet l3 (Int.toNat n2) fun y4 => dInt .u32 y4 fun n5 => idx l1 n2 fun y6 => dInt .u32 y6 fun n7 => bif decide ((0:Int) ≤ n2) && decide (n2 < (l3.length : Int)) then (lGet l3 (Int.toNat n2) fun y8 => lab (todoAt Γ 30 24) ⟨[(0, .sl 55 .any l1), (12, .ref 55 0), (20, .i .i64 (IntKind.wrap .i64 (n2 + 1)))], [some (.arr 55 (List.set l3 (Int.toNat n2) (D.int .u32 (addU n5 n7))) false)]⟩) else none) else none) else (some (.sl 55 .any l3, [])) := by kernel_rfl
def W15 : Handle := runS [⟨28, dat spPrimes⟩, ⟨29, dat spRoots⟩, ⟨30, dat spBlock⟩]
theorem w15 (lab : Lab) (t : List D) : evF Γ W15 lab 15 [.sl 5 .any t] [] =
  bif prC 64 then (lab (todoAt Γ 15 5) ⟨[(0, .sl 5 .any t), (2, .ptr 0 [] 35), (3, .sl 57 .any ((intD P64))), (4, .ref 55 1), (5, .ref 55 2), (6, .i .i64 0)], [some (.box 35 (.d 35 (D.agg [D.int .u8 0, D.int .u8 0, D.int .u8 0, D.int .u8 0, D.int .u8 0, D.int .u8 0, D.int .u8 0, D.int .u8 0, D.int .u8 0, D.int .u8 0, D.int .u8 0, D.int .u8 0, D.int .u8 0, D.int .u8 0, D.int .u8 0, D.int .u8 0, D.int .u8 0, D.int .u8 0, D.int .u8 0, D.int .u8 0, D.int .u8 0, D.int .u8 0, D.int .u8 0, D.int .u8 0, D.int .u8 0, D.int .u8 0, D.int .u8 0, D.int .u8 0, D.int .u8 0, D.int .u8 0, D.int .u8 0, D.int .u8 0]))), some (.arr 55 [D.int .u32 0, D.int .u32 0, D.int .u32 0, D.int .u32 0, D.int .u32 0, D.int .u32 0, D.int .u32 0, D.int .u32 0] false), some (.arr 55 [D.int .u32 0, D.int .u32 0, D.int .u32 0, D.int .u32 0, D.int .u32 0, D.int .u32 0, D.int .u32 0, D.int .u32 0, D.int .u32 0, D.int .u32 0, D.int .u32 0, D.int .u32 0, D.int .u32 0, D.int .u32 0, D.int .u32 0, D.int .u32 0, D.int .u32 0, D.int .u32 0, D.int .u32 0, D.int .u32 0, D.int .u32 0, D.int .u32 0, D.int .u32 0, D.int .u32 0, D.int .u32 0, D.int .u32 0, D.int .u32 0, D.int .u32 0, D.int .u32 0, D.int .u32 0, D.int .u32 0, D.int .u32 0, D.int .u32 0, D.int .u32 0, D.int .u32 0, D.int .u32 0, D.int .u32 0, D.int .u32 0, D.int .u32 0, D.int .u32 0, D.int .u32 0, D.int .u32 0, D.int .u32 0, D.int .u32 0, D.int .u32 0, D.int .u32 0, D.int .u32 0, D.int .u32 0, D.int .u32 0, D.int .u32 0, D.int .u32 0, D.int .u32 0, D.int .u32 0, D.int .u32 0, D.int .u32 0, D.int .u32 0, D.int .u32 0, D.int .u32 0, D.int .u32 0, D.int .u32 0, D.int .u32 0, D.int .u32 0, D.int .u32 0, D.int .u32 0] false)]⟩) else none := by kernel_rfl
theorem w15_5a (lab : Lab) (l1 : List D) (l2 : List D) (n3 : Int) (y4 : List D) (l5 : List D) (l6 : List D) : evL Γ W15 lab 15 5 ⟨[(0, .sl 5 .any l1), (2, .ptr 0 [] 35), (3, .sl 57 .any l2), (4, .ref 55 1), (5, .ref 55 2), (6, .i .i64 n3)], [some (.box 35 (.d 35 (D.agg y4))), some (.arr 55 l5 false), some (.arr 55 l6 false)]⟩ =
  bif decide (n3 < 64) then (idx l2 n3 fun y7 => dInt .u64 y7 fun n8 => bif decide ((0:Int) ≤ n3) && decide (n3 < (l6.length : Int)) then (lGet l6 (Int.toNat n3) fun y9 => bif decide (n3 < 8) then (idx l2 n3 fun y10 => dInt .u64 y10 fun n11 => bif decide ((0:Int) ≤ n3) && decide (n3 < (l5.length : Int)) then (lGet l5 (Int.toNat n3) fun y12 => lab (todoAt Γ 15 5) ⟨[(0, .sl 5 .any l1), (2, .ptr 0 [] 35), (3, .sl 57 .any l2), (4, .ref 55 1), (5, .ref 55 2), (6, .i .i64 (IntKind.wrap .i64 (n3 + 1)))], [some (.box 35 (.d 35 (D.agg y4))), some (.arr 55 (List.set l5 (Int.toNat n3) (D.int .u32 (roU n11 false))) false), some (.arr 55 (List.set l6 (Int.toNat n3) (D.int .u32 (roU n8 true))) false)]⟩) else none) else (lab (todoAt Γ 15 5) ⟨[(0, .sl 5 .any l1), (2, .ptr 0 [] 35), (3, .sl 57 .any l2), (4, .ref 55 1), (5, .ref 55 2), (6, .i .i64 (IntKind.wrap .i64 (n3 + 1)))], [some (.box 35 (.d 35 (D.agg y4))), some (.arr 55 l5 false), some (.arr 55 (List.set l6 (Int.toNat n3) (D.int .u32 (roU n8 true))) false)]⟩)) else none) else (onNil l1 (lab (todoAt Γ 15 12) ⟨[(0, .sl 5 .any l1), (2, .ptr 0 [] 35), (4, .ref 55 1), (5, .ref 55 2), (7, .ref 5 3)], [some (.box 35 (.d 35 (D.agg y4))), some (.arr 55 l5 false), some (.arr 55 l6 false), some (.arr 5 [D.int .u8 128] false)]⟩) (bif roomB (0 + l1.length) 1 then (bif roomB (l1.length + 1) 1 then (lab (todoAt Γ 15 12) ⟨[(0, .sl 5 .any l1), (2, .ptr 0 [] 35), (4, .ref 55 1), (5, .ref 55 2), (7, .ref 5 3)], [some (.box 35 (.d 35 (D.agg y4))), some (.arr 55 l5 false), some (.arr 55 l6 false), some (.arr 5 (l1 ++ [D.int .u8 128]) false)]⟩) else none) else none)) := by kernel_rfl
theorem w15_12a (lab : Lab) (l1 : List D) (y2 : List D) (l3 : List D) (l4 : List D) (l5 : List D) : evL Γ W15 lab 15 12 ⟨[(0, .sl 5 .any l1), (2, .ptr 0 [] 35), (4, .ref 55 1), (5, .ref 55 2), (7, .ref 5 3)], [some (.box 35 (.d 35 (D.agg y2))), some (.arr 55 l3 false), some (.arr 55 l4 false), some (.arr 5 l5 false)]⟩ =
  bif (Int.tmod ((l5.length : Int)) 64) != 56 then (bif roomB (l5.length + 1) 1 then (lab (todoAt Γ 15 12) ⟨[(0, .sl 5 .any l1), (2, .ptr 0 [] 35), (4, .ref 55 1), (5, .ref 55 2), (7, .ref 5 3)], [some (.box 35 (.d 35 (D.agg y2))), some (.arr 55 l3 false), some (.arr 55 l4 false), some (.arr 5 (l5 ++ [D.int .u8 0]) false)]⟩) else none) else (lab (todoAt Γ 15 16) ⟨[(2, .ptr 0 [] 35), (4, .ref 55 1), (5, .ref 55 2), (7, .ref 5 3), (8, .i .u64 (IntKind.wrap .u64 ((IntKind.wrap .u64 ((l1.length : Int))) * 8))), (9, .i .i64 7)], [some (.box 35 (.d 35 (D.agg y2))), some (.arr 55 l3 false), some (.arr 55 l4 false), some (.arr 5 l5 false)]⟩) := by kernel_rfl
theorem w15_16a (lab : Lab) (n1 : Int) (n2 : Int) (y3 : List D) (l4 : List D) (l5 : List D) (l6 : List D) : evL Γ W15 lab 15 16 ⟨[(2, .ptr 0 [] 35), (4, .ref 55 1), (5, .ref 55 2), (7, .ref 5 3), (8, .i .u64 n1), (9, .i .i64 n2)], [some (.box 35 (.d 35 (D.agg y3))), some (.arr 55 l4 false), some (.arr 55 l5 false), some (.arr 5 l6 false)]⟩ =
  bif decide (n2 ≥ 0) then (bif decide ((0:Int) ≤ (IntKind.wrap .u64 (IntKind.wrap .i64 (8 * n2)))) then (bif roomB (l6.length + 1) 1 then (lab (todoAt Γ 15 16) ⟨[(2, .ptr 0 [] 35), (4, .ref 55 1), (5, .ref 55 2), (7, .ref 5 3), (8, .i .u64 n1), (9, .i .i64 (IntKind.wrap .i64 (n2 - 1)))], [some (.box 35 (.d 35 (D.agg y3))), some (.arr 55 l4 false), some (.arr 55 l5 false), some (.arr 5 (l6 ++ [D.int .u8 (IntKind.wrap .u8 (shrV .u64 n1 (IntKind.wrap .u64 (IntKind.wrap .i64 (8 * n2)))))]) false)]⟩) else none) else none) else (lab (todoAt Γ 15 20) ⟨[(2, .ptr 0 [] 35), (4, .ref 55 1), (5, .ref 55 2), (7, .ref 5 3), (10, .i .i64 0)], [some (.box 35 (.d 35 (D.agg y3))), some (.arr 55 l4 false), some (.arr 55 l5 false), some (.arr 5 l6 false)]⟩) := by kernel_rfl
theorem w15_20a (lab : Lab) (n1 : Int) (y2 : List D) (l3 : List D) (l4 : List D) (l5 : List D) : evL Γ W15 lab 15 20 ⟨[(2, .ptr 0 [] 35), (4, .ref 55 1), (5, .ref 55 2), (7, .ref 5 3), (10, .i .i64 n1)], [some (.box 35 (.d 35 (D.agg y2))), some (.arr 55 l3 false), some (.arr 55 l4 false), some (.arr 5 l5 false)]⟩ =
  bif decide (n1 < ((l5.length : Int))) then (bif decide ((0:Int) ≤ (IntKind.wrap .i64 (n1 + 64))) && decide ((IntKind.wrap .i64 (n1 + 64)) ≤ (l5.length : Int)) then (bif decide ((0:Int) ≤ n1) && decide (n1 ≤ (Int.toNat (IntKind.wrap .i64 (n1 + 64)) : Int)) then (bif bkC l3 l4 (List.take ((Int.toNat (IntKind.wrap .i64 (n1 + 64))) - (Int.toNat n1)) (List.drop (Int.toNat n1) l5)) then (lab (todoAt Γ 15 20) ⟨[(2, .ptr 0 [] 35), (4, .sl 55 .any ((mixD l3 (List.take ((Int.toNat (IntKind.wrap .i64 (n1 + 64))) - (Int.toNat n1)) (List.drop (Int.toNat n1) l5))))), (5, .ref 55 1), (7, .ref 5 2), (10, .i .i64 (IntKind.wrap .i64 (n1 + 64)))], [some (.box 35 (.d 35 (D.agg y2))), some (.arr 55 l4 true), some (.arr 5 l5 true)]⟩) else none) else none) else none) else (lab (todoAt Γ 15 25) ⟨[(2, .ptr 0 [] 35), (4, .ref 55 1), (11, .ptr 2 [] 35), (12, .i .i64 0)], [some (.box 35 (.d 35 (D.agg y2))), some (.arr 55 l3 false), some (.box 35 (.d 35 (D.agg [D.int .u8 0, D.int .u8 0, D.int .u8 0, D.int .u8 0, D.int .u8 0, D.int .u8 0, D.int .u8 0, D.int .u8 0, D.int .u8 0, D.int .u8 0, D.int .u8 0, D.int .u8 0, D.int .u8 0, D.int .u8 0, D.int .u8 0, D.int .u8 0, D.int .u8 0, D.int .u8 0, D.int .u8 0, D.int .u8 0, D.int .u8 0, D.int .u8 0, D.int .u8 0, D.int .u8 0, D.int .u8 0, D.int .u8 0, D.int .u8 0, D.int .u8 0, D.int .u8 0, D.int .u8 0, D.int .u8 0, D.int .u8 0])))]⟩) := by kernel_rfl
theorem w15_20b (lab : Lab) (l1 : List D) (n2 : Int) (y3 : List D) (l4 : List D) (l5 : List D) : evL Γ W15 lab 15 20 ⟨[(2, .ptr 0 [] 35), (4, .sl 55 .any l1), (5, .ref 55 1), (7, .ref 5 2), (10, .i .i64 n2)], [some (.box 35 (.d 35 (D.agg y3))), some (.arr 55 l4 true), some (.arr 5 l5 true)]⟩ =
  bif decide (n2 < ((l5.length : Int))) then (bif decide ((0:Int) ≤ (IntKind.wrap .i64 (n2 + 64))) && decide ((IntKind.wrap .i64 (n2 + 64)) ≤ (l5.length : Int)) then (bif decide ((0:Int) ≤ n2) && decide (n2 ≤ (Int.toNat (IntKind.wrap .i64 (n2 + 64)) : Int)) then (bif bkC l1 l4 (List.take ((Int.toNat (IntKind.wrap .i64 (n2 + 64))) - (Int.toNat n2)) (List.drop (Int.toNat n2) l5)) then (lab (todoAt Γ 15 20) ⟨[(2, .ptr 0 [] 35), (4, .sl 55 .any ((mixD l1 (List.take ((Int.toNat (IntKind.wrap .i64 (n2 + 64))) - (Int.toNat n2)) (List.drop (Int.toNat n2) l5))))), (5, .ref 55 1), (7, .ref 5 2), (10, .i .i64 (IntKind.wrap .i64 (n2 + 64)))], [some (.box 35 (.d 35 (D.agg y3))), some (.arr 55 l4 true), some (.arr 5 l5 true)]⟩) else none) else none) else none) else (lab (todoAt Γ 15 25) ⟨[(2, .ptr 0 [] 35), (4, .sl 55 .any l1), (11, .ptr 1 [] 35), (12, .i .i64 0)], [some (.box 35 (.d 35 (D.agg y3))), some (.box 35 (.d 35 (D.agg [D.int .u8 0, D.int .u8 0, D.int .u8 0, D.int .u8 0, D.int .u8 0, D.int .u8 0, D.int .u8 0, D.int .u8 0, D.int .u8 0, D.int .u8 0, D.int .u8 0, D.int .u8 0, D.int .u8 0, D.int .u8 0, D.int .u8 0, D.int .u8 0, D.int .u8 0, D.int .u8 0, D.int .u8 0, D.int .u8 0, D.int .u8 0, D.int .u8 0, D.int .u8 0, D.int .u8 0, D.int .u8 0, D.int .u8 0, D.int .u8 0, D.int .u8 0, D.int .u8 0, D.int .u8 0, D.int .u8 0, D.int .u8 0])))]⟩) := by kernel_rfl
theorem w15_25a (lab : Lab) (n1 : Int) (y2 : List D) (l3 : List D) (y4 : List D) : evL Γ W15 lab 15 25 ⟨[(2, .ptr 0 [] 35), (4, .ref 55 1), (11, .ptr 2 [] 35), (12, .i .i64 n1)], [some (.box 35 (.d 35 (D.agg y2))), some (.arr 55 l3 false), some (.box 35 (.d 35 (D.agg y4)))]⟩ =
  bif decide (n1 < 32) then (bif decide ((0:Int) ≤ (IntKind.wrap .i64 (Int.tdiv n1 4))) && decide ((IntKind.wrap .i64 (Int.tdiv n1 4)) < (l3.length : Int)) then (lGet l3 (Int.toNat (IntKind.wrap .i64 (Int.tdiv n1 4))) fun y5 => dInt .u32 y5 fun n6 => bif decide ((0:Int) ≤ (IntKind.wrap .u64 (IntKind.wrap .i64 (24 - (IntKind.wrap .i64 (8 * (Int.tmod n1 4))))))) then (bif decide ((0:Int) ≤ n1) && decide (n1 < (32 : Int)) then (lab (todoAt Γ 15 25) ⟨[(2, .ptr 0 [] 35), (4, .ref 55 1), (11, .ptr 2 [] 35), (12, .i .i64 (IntKind.wrap .i64 (n1 + 1)))], [some (.box 35 (.d 35 (D.agg y2))), some (.arr 55 l3 false), some (.box 35 (.d 35 (D.agg (List.set y4 (Int.toNat n1) (D.int .u8 (IntKind.wrap .u8 (shrV .u32 n6 (IntKind.wrap .u64 (IntKind.wrap .i64 (24 - (IntKind.wrap .i64 (8 * (Int.tmod n1 4)))))))))))))]⟩) else none) else none) else none) else (some (.d 35 (D.agg y4), [])) := by kernel_rfl
theorem w15_25b (lab : Lab) (l1 : List D) (n2 : Int) (y3 : List D) (y4 : List D) : evL Γ W15 lab 15 25 ⟨[(2, .ptr 0 [] 35), (4, .sl 55 .any l1), (11, .ptr 1 [] 35), (12, .i .i64 n2)], [some (.box 35 (.d 35 (D.agg y3))), some (.box 35 (.d 35 (D.agg y4)))]⟩ =
  bif decide (n2 < 32) then (idx l1 (IntKind.wrap .i64 (Int.tdiv n2 4)) fun y5 => dInt .u32 y5 fun n6 => bif decide ((0:Int) ≤ (IntKind.wrap .u64 (IntKind.wrap .i64 (24 - (IntKind.wrap .i64 (8 * (Int.tmod n2 4))))))) then (bif decide ((0:Int) ≤ n2) && decide (n2 < (32 : Int)) then (lab (todoAt Γ 15 25) ⟨[(2, .ptr 0 [] 35), (4, .sl 55 .any l1), (11, .ptr 1 [] 35), (12, .i .i64 (IntKind.wrap .i64 (n2 + 1)))], [some (.box 35 (.d 35 (D.agg y3))), some (.box 35 (.d 35 (D.agg (List.set y4 (Int.toNat n2) (D.int .u8 (IntKind.wrap .u8 (shrV .u32 n6 (IntKind.wrap .u64 (IntKind.wrap .i64 (24 - (IntKind.wrap .i64 (8 * (Int.tmod n2 4)))))))))))))]⟩) else none) else none) else (some (.d 35 (D.agg y4), [])) := by kernel_rfl
theorem w39 (lab : Lab) (d : List D) : evF Γ (runS []) lab 39 [.d 35 (D.agg d)] [] =
  lab (todoAt Γ 39 3) ⟨[(1, .ptr 0 [] 35), (3, .s ([] : List UInt8)), (4, .i .i64 0)], [some (.box 35 (.d 35 (D.agg d)))]⟩ := by kernel_rfl
theorem w39_3a (lab : Lab) (s1 : List UInt8) (n2 : Int) (y3 : List D) : evL Γ (runS []) lab 39 3 ⟨[(1, .ptr 0 [] 35), (3, .s s1), (4, .i .i64 n2)], [some (.box 35 (.d 35 (D.agg y3)))]⟩ =
  bif decide (n2 < 32) then (bif decide ((0:Int) ≤ n2) && decide (n2 < (32 : Int)) then (lGet y3 (Int.toNat n2) fun y4 => dInt .u8 y4 fun n5 => kBytes [D.int .u8 n5] fun s6 => bif decide (List.length s1 + List.length s6 ≤ maxStr) then (lab (todoAt Γ 39 3) ⟨[(1, .ptr 0 [] 35), (3, .s (s1 ++ s6)), (4, .i .i64 (IntKind.wrap .i64 (n2 + 1)))], [some (.box 35 (.d 35 (D.agg y3)))]⟩) else none) else none) else (some (.s s1, [])) := by kernel_rfl
def W31 : Handle := runS [⟨39, dat spDig⟩, ⟨15, dat spRef⟩]
theorem w31 (lab : Lab) (a : List D) (b : List D) : evF Γ W31 lab 31 [.d 35 (D.agg a), .d 35 (D.agg b)] [] =
  bif isDg a then (bif decide (List.length ([1] : List UInt8) + List.length ((unB a)) ≤ maxStr) then (bif isDg b then (bif decide (List.length (([1] : List UInt8) ++ ((unB a))) + List.length ((unB b)) ≤ maxStr) then (bif rfC (bytesD ((([1] : List UInt8) ++ ((unB a))) ++ ((unB b)))) then (some (.d 35 (D.agg ((bytesD (shaT (unB (bytesD ((([1] : List UInt8) ++ ((unB a))) ++ ((unB b))))))))), [])) else none) else none) else none) else none) else none := by kernel_rfl
end Go.Proofs.YtafmogdnhpnbiaaDoor.V
