/- TgB, TgC, TgD, TgE, TgF, TgG, TgH, TgI, RuP: texts of this claim, put together in build order by program. -/
import Derived.Test.YtjbemleloffafaaDoorBd
import Derived.Shelf.Strings.Cut
/- Tags: what the machine over values makes of the functions: equations, written by program. -/
namespace Go.Proofs.YtjbemleloffafaaDoor.V
open Go
set_option maxRecDepth 100000
set_option linter.unusedVariables false
set_option linter.unusedSimpArgs false
def cmpZ (p q : List UInt8) : Int := bif lessB p q then -1 else bif !(lessB p q || p == q) then 1 else 0
def ordZ (a b : D) : Int := cmpZ (nmT a) (nmT b)
def sameT (a b : List D) : Bool := (a.map fun t => (nmT t, vlT t)) == (b.map fun t => (nmT t, vlT t))
def srtC (l : List D) : Bool := decide (l.length ≤ 8) && l.all isT
def lenC (n : Int) : Bool := decide (0 ≤ n) && decide (n ≤ 8)
def blen (n : Int) : Int := bif n == 0 then 0 else bif n == 1 then 1 else bif decide (n ≤ 3) then 2 else bif decide (n ≤ 7) then 3 else 4
def tcA (s : List UInt8) : List UInt8 := (Lib.cut s [61]).1
def tcB (s : List UInt8) : List UInt8 := (Lib.cut s [61]).2.1
def tcF (s : List UInt8) : Bool := (Lib.cut s [61]).2.2
def spLen : List AV → Option (Bool × AV)
  | [.i .u64 n] => some (lenC n, .i .i64 (blen n))
  | _ => none
def spLL (u v : TypeId) (c : List D → List D → Bool) (f : List D → List D → AV) : List AV → Option (Bool × AV)
  | [.sl t _ x, .sl s _ y] => some (Nat.beq t u && (Nat.beq s v && c x y), f x y)
  | _ => none
def spCut : List AV → Option (Bool × AV)
  | [.s s, .s [61]] => some (s32 s, .tuple [.s (tcA s), .s (tcB s), .b (tcF s)])
  | _ => none
def spJ2 : List AV → Option (Bool × AV)
  | [.snil, .s p] => some (joinC [] p, .s (joinV [] p))
  | [.sl 9 _ l, .s p] => some (joinC l p, .s (joinV l p))
  | _ => none
def spSp38 : List AV → Option (Bool × AV)
  | [.s s, .s [38]] => some (s32 s, .sl 9 .ex (splitC 38 s))
  | _ => none
def spL1s (u : TypeId) (c : List D → Bool) (f : List D → AV) : List AV → Option (Bool × AV)
  | [.snil] => some (c [], f [])
  | [.sl t _ l] => some (Nat.beq t u && c l, f l)
  | _ => none
def xClone : List AV → Objs → Option (Bool × AV × Objs)
  | [.sl t _ []], [] => some (Nat.beq t 80, .sl 80 .cl [], [])
  | [.sl t _ (x :: r)], [] => some (Nat.beq t 80 && tC (x :: r), .ref 80 0, [some (.arr 80 (x :: r) false)])
  | _, _ => none
def xSort : List AV → Objs → Option (Bool × AV × Objs)
  | [.ref t 0, .fn g []], [some (.arr e l false)] => some (Nat.beq t 80 && (Nat.beq g 52 && (Nat.beq e 80 && srtC l)), .tuple [], [some (.arr 80 (srt [] l) false)])
  | _, _ => none
def xIns : List AV → Objs → Option (Bool × AV × Objs)
  | [.ref t 0, .i .i64 a, .i .i64 b, .fn g []], [some (.arr e l false)] => some (Nat.beq t 80 && (Nat.beq g 52 && (Nat.beq e 80 && (a == 0 && (b == (l.length : Int) && srtC l)))), .tuple [], [some (.arr 80 (srt [] l) false)])
  | _, _ => none
def xPdq : List AV → Objs → Option (Bool × AV × Objs)
  | [.ref t 0, .i .i64 a, .i .i64 b, .i .i64 _, .fn g []], [some (.arr e l false)] => some (Nat.beq t 80 && (Nat.beq g 52 && (Nat.beq e 80 && (a == 0 && (b == (l.length : Int) && srtC l)))), .tuple [], [some (.arr 80 (srt [] l) false)])
  | _, _ => none
variable {mx : Int}
theorem r115 (call : Handle) (lab : Lab) (x : List UInt8) : evF (Γ mx) call lab 115 [.s x] [] =
  some (.b (!(x == x)), []) := by kernel_rfl
def H81 : Handle := runS [⟨115, dat (sp1 (fun _ => true) fun _ => .b false)⟩]
theorem r81 (lab : Lab) (x : List UInt8) (y : List UInt8) : evF (Γ mx) H81 lab 81 [.s x, .s y] [] =
  bif lessB x y then (some (.i .i64 (-1), [])) else (bif !(lessB x y || x == y) then (some (.i .i64 1, [])) else (some (.i .i64 0, []))) := by kernel_rfl
def H52 : Handle := runS [⟨81, dat (sp2 (fun _ _ => true) fun a b => .i .i64 (cmpZ a b))⟩]
theorem r52 (lab : Lab) (a1 : List UInt8) (a2 : List UInt8) (b1 : List UInt8) (b2 : List UInt8) : evF (Γ mx) H52 lab 52 [.d 80 (D.agg [D.str a1, D.str a2]), .d 80 (D.agg [D.str b1, D.str b2])] [] =
  some (.i .i64 (cmpZ a1 b1), []) := by kernel_rfl
def H54 : Handle := runS [⟨82, dat (sp1 short fun p => .b (cleanV p))⟩]
theorem r54 (lab : Lab) (a1 : List UInt8) (a2 : List UInt8) : evF (Γ mx) H54 lab 54 [.d 80 (D.agg [D.str a1, D.str a2])] [] =
  bif !(a1 == ([] : List UInt8)) then (bif decide (((List.length a1 : Int)) ≤ 64) then (bif decide (((List.length a2 : Int)) ≤ 64) then (bif short a1 then (bif cleanV a1 then (bif short a2 then (some (.b (cleanV a2), [])) else none) else (some (.b false, []))) else none) else (some (.b false, []))) else (some (.b false, []))) else (some (.b false, [])) := by kernel_rfl
def H26 : Handle := runS [⟨54, dat (spD1 80 shT fun d => .b (goodT d))⟩]
theorem r26 (lab : Lab) (l : List D) : evF (Γ mx) H26 lab 26 [.sl 80 .any l] [] =
  bif decide (((l.length : Int)) > 8) then (some (.b false, [])) else (lab (todoAt (Γ mx) 26 4) ⟨[(0, .sl 80 .any l), (8, .sl 80 .any l), (9, .i .i64 ((l.length : Int))), (10, .i .i64 0)], []⟩) := by kernel_rfl
theorem r26_4a (lab : Lab) (l1 : List D) (l2 : List D) (n3 : Int) (n4 : Int) : evL (Γ mx) H26 lab 26 4 ⟨[(0, .sl 80 .any l1), (8, .sl 80 .any l2), (9, .i .i64 n3), (10, .i .i64 n4)], []⟩ =
  bif decide (n4 < n3) then (idx l2 n4 fun y5 => dAgg y5 fun y6 => lCons y6 fun a7 r8 => dStr a7 fun s9 => lCons r8 fun a10 r11 => dStr a10 fun s12 => lNil r11 (bif shT (D.agg [D.str s9, D.str s12]) then (bif !(goodT (D.agg [D.str s9, D.str s12])) then (some (.b false, [])) else (bif decide (n4 > 0) then (idx l1 (IntKind.wrap .i64 (n4 - 1)) fun y13 => dAgg y13 fun y14 => lGet y14 0 fun y15 => dStr y15 fun s16 => bif !lessB s16 s9 then (some (.b false, [])) else (lab (todoAt (Γ mx) 26 4) ⟨[(0, .sl 80 .any l1), (8, .sl 80 .any l2), (9, .i .i64 n3), (10, .i .i64 (IntKind.wrap .i64 (n4 + 1)))], []⟩)) else (lab (todoAt (Γ mx) 26 4) ⟨[(0, .sl 80 .any l1), (8, .sl 80 .any l2), (9, .i .i64 n3), (10, .i .i64 (IntKind.wrap .i64 (n4 + 1)))], []⟩))) else none)) else (some (.b true, [])) := by kernel_rfl
def H27 : Handle := runS [⟨55, dat (sp1 short fun p => .b (cleanV p))⟩]
theorem r27 (lab : Lab) (l : List D) : evF (Γ mx) H27 lab 27 [.sl 80 .any l] [] =
  bif decide (((l.length : Int)) > 8) then (some (.b false, [])) else (lab (todoAt (Γ mx) 27 4) ⟨[(0, .sl 80 .any l), (3, .i .i64 0)], []⟩) := by kernel_rfl
theorem r27_4a (lab : Lab) (l1 : List D) (n2 : Int) : evL (Γ mx) H27 lab 27 4 ⟨[(0, .sl 80 .any l1), (3, .i .i64 n2)], []⟩ =
  bif decide (n2 < ((l1.length : Int))) then (idx l1 n2 fun y3 => dAgg y3 fun y4 => lGet y4 0 fun y5 => dStr y5 fun s6 => bif decide (((List.length s6 : Int)) < 1) then (some (.b false, [])) else (idx l1 n2 fun y7 => dAgg y7 fun y8 => lGet y8 0 fun y9 => dStr y9 fun s10 => bif decide (((List.length s10 : Int)) > 64) then (some (.b false, [])) else (idx l1 n2 fun y11 => dAgg y11 fun y12 => lGet y12 1 fun y13 => dStr y13 fun s14 => bif decide (((List.length s14 : Int)) > 64) then (some (.b false, [])) else (idx l1 n2 fun y15 => dAgg y15 fun y16 => lGet y16 0 fun y17 => dStr y17 fun s18 => bif short s18 then (bif !(cleanV s18) then (some (.b false, [])) else (idx l1 n2 fun y19 => dAgg y19 fun y20 => lGet y20 1 fun y21 => dStr y21 fun s22 => bif short s22 then (bif !(cleanV s22) then (some (.b false, [])) else (bif decide (n2 > 0) then (idx l1 n2 fun y23 => dAgg y23 fun y24 => lGet y24 0 fun y25 => dStr y25 fun s26 => idx l1 (IntKind.wrap .i64 (n2 - 1)) fun y27 => dAgg y27 fun y28 => lGet y28 0 fun y29 => dStr y29 fun s30 => bif lessB s26 s30 || s26 == s30 then (some (.b false, [])) else (lab (todoAt (Γ mx) 27 4) ⟨[(0, .sl 80 .any l1), (3, .i .i64 (IntKind.wrap .i64 (n2 + 1)))], []⟩)) else (lab (todoAt (Γ mx) 27 4) ⟨[(0, .sl 80 .any l1), (3, .i .i64 (IntKind.wrap .i64 (n2 + 1)))], []⟩))) else none)) else none)))) else (some (.b true, [])) := by kernel_rfl
theorem r29 (call : Handle) (lab : Lab) (l : List D) (n : List UInt8) : evF (Γ mx) call lab 29 [.sl 80 .any l, .s n] [] =
  lab (todoAt (Γ mx) 29 2) ⟨[(1, .s n), (8, .sl 80 .any l), (9, .i .i64 ((l.length : Int))), (10, .i .i64 0)], []⟩ := by kernel_rfl
theorem r29_2a (call : Handle) (lab : Lab) (s1 : List UInt8) (l2 : List D) (n3 : Int) (n4 : Int) : evL (Γ mx) call lab 29 2 ⟨[(1, .s s1), (8, .sl 80 .any l2), (9, .i .i64 n3), (10, .i .i64 n4)], []⟩ =
  bif decide (n4 < n3) then (idx l2 n4 fun y5 => dAgg y5 fun y6 => lCons y6 fun a7 r8 => dStr a7 fun s9 => lCons r8 fun a10 r11 => dStr a10 fun s12 => lNil r11 (bif s9 == s1 then (some (.tuple [.s s12, .b true], [])) else (lab (todoAt (Γ mx) 29 2) ⟨[(1, .s s1), (8, .sl 80 .any l2), (9, .i .i64 n3), (10, .i .i64 (IntKind.wrap .i64 (n4 + 1)))], []⟩))) else (some (.tuple [.s ([] : List UInt8), .b false], [])) := by kernel_rfl
def H30 : Handle := runS [⟨29, dat (spLS 80 (fun l _ => tC l) fun l n => .tuple [.s (getS l n), .b (getB l n)])⟩]
theorem r30 (lab : Lab) (a : List D) (b : List D) : evF (Γ mx) H30 lab 30 [.sl 80 .any a, .sl 80 .any b] [] =
  lab (todoAt (Γ mx) 30 2) ⟨[(1, .sl 80 .any b), (9, .sl 80 .any a), (10, .i .i64 ((a.length : Int))), (11, .i .i64 0)], []⟩ := by kernel_rfl
theorem r30_2a (lab : Lab) (l1 : List D) (l2 : List D) (n3 : Int) (n4 : Int) : evL (Γ mx) H30 lab 30 2 ⟨[(1, .sl 80 .any l1), (9, .sl 80 .any l2), (10, .i .i64 n3), (11, .i .i64 n4)], []⟩ =
  bif decide (n4 < n3) then (idx l2 n4 fun y5 => dAgg y5 fun y6 => lCons y6 fun a7 r8 => dStr a7 fun s9 => lCons r8 fun a10 r11 => dStr a10 fun s12 => lNil r11 (bif tC l1 then (bif !(getB l1 s9) then (some (.b false, [])) else (bif !((getS l1 s9) == s12) then (some (.b false, [])) else (lab (todoAt (Γ mx) 30 2) ⟨[(1, .sl 80 .any l1), (9, .sl 80 .any l2), (10, .i .i64 n3), (11, .i .i64 (IntKind.wrap .i64 (n4 + 1)))], []⟩))) else none)) else (some (.b true, [])) := by kernel_rfl
theorem r56 (call : Handle) (lab : Lab) (a : List D) (b : List D) : evF (Γ mx) call lab 56 [.sl 80 .any a, .sl 80 .any b] [] =
  bif ((a.length : Int)) != ((b.length : Int)) then (some (.b false, [])) else (lab (todoAt (Γ mx) 56 4) ⟨[(0, .sl 80 .any a), (1, .sl 80 .any b), (12, .i .i64 ((a.length : Int))), (13, .i .i64 0)], []⟩) := by kernel_rfl
theorem r56_4a (call : Handle) (lab : Lab) (l1 : List D) (l2 : List D) (n3 : Int) (n4 : Int) : evL (Γ mx) call lab 56 4 ⟨[(0, .sl 80 .any l1), (1, .sl 80 .any l2), (12, .i .i64 n3), (13, .i .i64 n4)], []⟩ =
  bif decide (n4 < n3) then (idx l1 n4 fun y5 => dAgg y5 fun y6 => lCons y6 fun a7 r8 => dStr a7 fun s9 => lCons r8 fun a10 r11 => dStr a10 fun s12 => lNil r11 (idx l2 n4 fun y13 => dAgg y13 fun y14 => lCons y14 fun a15 r16 => dStr a15 fun s17 => lCons r16 fun a18 r19 => dStr a18 fun s20 => lNil r19 (bif !(eqD (D.agg [D.str s9, D.str s12]) (D.agg [D.str s17, D.str s20])) then (some (.b false, [])) else (lab (todoAt (Γ mx) 56 4) ⟨[(0, .sl 80 .any l1), (1, .sl 80 .any l2), (12, .i .i64 n3), (13, .i .i64 (IntKind.wrap .i64 (n4 + 1)))], []⟩)))) else (some (.b true, [])) := by kernel_rfl
def H31 : Handle := runS [⟨56, dat (spLL 80 80 (fun a b => tC a && tC b) fun a b => .b (sameT a b))⟩]
theorem r31 (lab : Lab) (a : List D) (b : List D) : evF (Γ mx) H31 lab 31 [.sl 80 .any a, .sl 80 .any b] [] =
  bif tC a && tC b then (some (.b (sameT a b), [])) else none := by kernel_rfl
theorem r25 (call : Handle) (lab : Lab) (a : List D) (b : List D) : evF (Γ mx) call lab 25 [.sl 80 .any a, .sl 80 .any b] [] =
  bif ((a.length : Int)) != ((b.length : Int)) then (some (.b false, [])) else (lab (todoAt (Γ mx) 25 4) ⟨[(0, .sl 80 .any a), (1, .sl 80 .any b), (5, .i .i64 0)], []⟩) := by kernel_rfl
theorem r25_4a (call : Handle) (lab : Lab) (l1 : List D) (l2 : List D) (n3 : Int) : evL (Γ mx) call lab 25 4 ⟨[(0, .sl 80 .any l1), (1, .sl 80 .any l2), (5, .i .i64 n3)], []⟩ =
  bif decide (n3 < ((l1.length : Int))) then (idx l1 n3 fun y4 => dAgg y4 fun y5 => lGet y5 0 fun y6 => dStr y6 fun s7 => idx l2 n3 fun y8 => dAgg y8 fun y9 => lGet y9 0 fun y10 => dStr y10 fun s11 => bif !(s7 == s11) then (some (.b false, [])) else (idx l1 n3 fun y12 => dAgg y12 fun y13 => lGet y13 1 fun y14 => dStr y14 fun s15 => idx l2 n3 fun y16 => dAgg y16 fun y17 => lGet y17 1 fun y18 => dStr y18 fun s19 => bif !(s15 == s19) then (some (.b false, [])) else (lab (todoAt (Γ mx) 25 4) ⟨[(0, .sl 80 .any l1), (1, .sl 80 .any l2), (5, .i .i64 (IntKind.wrap .i64 (n3 + 1)))], []⟩))) else (some (.b true, [])) := by kernel_rfl
theorem r50 (call : Handle) (lab : Lab) (x : D) (r : List D) : evF (Γ mx) call lab 50 [.sl 80 .any ((x :: r))] [] =
  bif roomB (0 + ((x :: r)).length) 32 then (some (.ref 80 0, [some (.arr 80 ((x :: r)) false)])) else none := by kernel_rfl
theorem r53 (call : Handle) (lab : Lab) (l : List D) : evF (Γ mx) call lab 53 [.sl 80 .any l] [] =
  bif decide ((0:Int) ≤ ((l.length : Int))) && decide (((l.length : Int)) ≤ (l.length : Int)) then (bif decide ((0:Int) ≤ ((l.length : Int))) && decide (((l.length : Int)) ≤ (Int.toNat ((l.length : Int)) : Int)) then (bif Nat.beq (Int.toNat ((l.length : Int))) (Int.toNat ((l.length : Int))) then (some (.sl 80 .cl (List.take ((Int.toNat ((l.length : Int))) - 0) (List.drop 0 l)), [])) else none) else none) else none := by kernel_rfl
def H105 : Handle := runS [⟨52, dat (spDD 80 80 (fun a b => isT a && isT b) fun a b => .i .i64 (ordZ a b))⟩]
theorem r105 (lab : Lab) (a : Int) (b : Int) (l : List D) : evF (Γ mx) H105 lab 105 [.ref 80 0, .i .i64 a, .i .i64 b, .fn 52 []] [some (.arr 80 l false)] =
  lab (todoAt (Γ mx) 105 1) ⟨[(0, .ref 80 0), (1, .i .i64 a), (2, .i .i64 b), (3, .fn 52 []), (8, .i .i64 (IntKind.wrap .i64 (a + 1)))], [some (.arr 80 l false)]⟩ := by kernel_rfl
theorem r105_1a (lab : Lab) (n1 : Int) (n2 : Int) (n3 : Int) (l4 : List D) : evL (Γ mx) H105 lab 105 1 ⟨[(0, .ref 80 0), (1, .i .i64 n1), (2, .i .i64 n2), (3, .fn 52 []), (8, .i .i64 n3)], [some (.arr 80 l4 false)]⟩ =
  bif decide (n3 < n2) then (lab (todoAt (Γ mx) 105 4) ⟨[(0, .ref 80 0), (1, .i .i64 n1), (2, .i .i64 n2), (3, .fn 52 []), (8, .i .i64 n3), (9, .i .i64 n3)], [some (.arr 80 l4 false)]⟩) else (some (.tuple [], [some (.arr 80 l4 false)])) := by kernel_rfl
theorem r105_4a (lab : Lab) (n1 : Int) (n2 : Int) (n3 : Int) (n4 : Int) (l5 : List D) : evL (Γ mx) H105 lab 105 4 ⟨[(0, .ref 80 0), (1, .i .i64 n1), (2, .i .i64 n2), (3, .fn 52 []), (8, .i .i64 n3), (9, .i .i64 n4)], [some (.arr 80 l5 false)]⟩ =
  bif decide (n4 > n1) then (bif decide ((0:Int) ≤ n4) && decide (n4 < (l5.length : Int)) then (lGet l5 (Int.toNat n4) fun y6 => dAgg y6 fun y7 => lCons y7 fun a8 r9 => dStr a8 fun s10 => lCons r9 fun a11 r12 => dStr a11 fun s13 => lNil r12 (bif decide ((0:Int) ≤ (IntKind.wrap .i64 (n4 - 1))) && decide ((IntKind.wrap .i64 (n4 - 1)) < (l5.length : Int)) then (lGet l5 (Int.toNat (IntKind.wrap .i64 (n4 - 1))) fun y14 => dAgg y14 fun y15 => lCons y15 fun a16 r17 => dStr a16 fun s18 => lCons r17 fun a19 r20 => dStr a19 fun s21 => lNil r20 (bif isT (D.agg [D.str s10, D.str s13]) && isT (D.agg [D.str s18, D.str s21]) then (bif decide ((ordZ (D.agg [D.str s10, D.str s13]) (D.agg [D.str s18, D.str s21])) < 0) then (bif decide ((0:Int) ≤ (IntKind.wrap .i64 (n4 - 1))) && decide ((IntKind.wrap .i64 (n4 - 1)) < (l5.length : Int)) then (lGet l5 (Int.toNat (IntKind.wrap .i64 (n4 - 1))) fun y22 => dAgg y22 fun y23 => lCons y23 fun a24 r25 => dStr a24 fun s26 => lCons r25 fun a27 r28 => dStr a27 fun s29 => lNil r28 (bif decide ((0:Int) ≤ n4) && decide (n4 < (l5.length : Int)) then (lGet l5 (Int.toNat n4) fun y30 => dAgg y30 fun y31 => lCons y31 fun a32 r33 => dStr a32 fun s34 => lCons r33 fun a35 r36 => dStr a35 fun s37 => lNil r36 (bif decide ((0:Int) ≤ n4) && decide (n4 < (l5.length : Int)) then (lGet l5 (Int.toNat n4) fun y38 => bif decide ((0:Int) ≤ (IntKind.wrap .i64 (n4 - 1))) && decide ((IntKind.wrap .i64 (n4 - 1)) < ((List.set l5 (Int.toNat n4) (D.agg [D.str s26, D.str s29])).length : Int)) then (lGet (List.set l5 (Int.toNat n4) (D.agg [D.str s26, D.str s29])) (Int.toNat (IntKind.wrap .i64 (n4 - 1))) fun y39 => lab (todoAt (Γ mx) 105 4) ⟨[(0, .ref 80 0), (1, .i .i64 n1), (2, .i .i64 n2), (3, .fn 52 []), (8, .i .i64 n3), (9, .i .i64 (IntKind.wrap .i64 (n4 - 1)))], [some (.arr 80 (List.set (List.set l5 (Int.toNat n4) (D.agg [D.str s26, D.str s29])) (Int.toNat (IntKind.wrap .i64 (n4 - 1))) (D.agg [D.str s34, D.str s37])) false)]⟩) else none) else none)) else none)) else none) else (lab (todoAt (Γ mx) 105 1) ⟨[(0, .ref 80 0), (1, .i .i64 n1), (2, .i .i64 n2), (3, .fn 52 []), (8, .i .i64 (IntKind.wrap .i64 (n3 + 1)))], [some (.arr 80 l5 false)]⟩)) else none)) else none)) else none) else (lab (todoAt (Γ mx) 105 1) ⟨[(0, .ref 80 0), (1, .i .i64 n1), (2, .i .i64 n2), (3, .fn 52 []), (8, .i .i64 (IntKind.wrap .i64 (n3 + 1)))], [some (.arr 80 l5 false)]⟩) := by kernel_rfl
theorem nlr50 (call : Handle) (lab : Lab) : evF (Γ mx) call lab 50 [.sl 80 .nl []] [] =
  some (.snil, []) := by kernel_rfl
theorem nnr50 (call : Handle) (lab : Lab) : evF (Γ mx) call lab 50 [.sl 80 .nn []] [] =
  some (.sl 80 .ex [], []) := by kernel_rfl
def H79 : Handle := runS [⟨105, xIns⟩]
theorem r79 (lab : Lab) (a b m : Int) (l : List D) : evF (Γ mx) H79 lab 79 [.ref 80 0, .i .i64 a, .i .i64 b, .i .i64 m, .fn 52 []] [some (.arr 80 l false)] =
  lab (todoAt (Γ mx) 79 2) ⟨[(0, .ref 80 0), (1, .i .i64 a), (2, .i .i64 b), (3, .i .i64 m), (4, .fn 52 []), (10, .b true), (11, .b true)], [some (.arr 80 l false)]⟩ := by kernel_rfl
theorem r79_0 (lab : Lab) (m : Int) (l : List D) : evL (Γ mx) H79 lab 79 2 ⟨[(0, .ref 80 0), (1, .i .i64 0), (2, .i .i64 0), (3, .i .i64 m), (4, .fn 52 []), (10, .b true), (11, .b true)], [some (.arr 80 l false)]⟩ =
  bif (Nat.beq l.length (srt [] l).length && true) && ((0 : Int) == 0 && ((0 : Int) == (l.length : Int) && srtC l)) then (some (.tuple [], [some (.arr 80 (srt [] l) false)])) else none := by kernel_rfl
theorem r79_1 (lab : Lab) (m : Int) (l : List D) : evL (Γ mx) H79 lab 79 2 ⟨[(0, .ref 80 0), (1, .i .i64 0), (2, .i .i64 1), (3, .i .i64 m), (4, .fn 52 []), (10, .b true), (11, .b true)], [some (.arr 80 l false)]⟩ =
  bif (Nat.beq l.length (srt [] l).length && true) && ((0 : Int) == 0 && ((1 : Int) == (l.length : Int) && srtC l)) then (some (.tuple [], [some (.arr 80 (srt [] l) false)])) else none := by kernel_rfl
theorem r79_2 (lab : Lab) (m : Int) (l : List D) : evL (Γ mx) H79 lab 79 2 ⟨[(0, .ref 80 0), (1, .i .i64 0), (2, .i .i64 2), (3, .i .i64 m), (4, .fn 52 []), (10, .b true), (11, .b true)], [some (.arr 80 l false)]⟩ =
  bif (Nat.beq l.length (srt [] l).length && true) && ((0 : Int) == 0 && ((2 : Int) == (l.length : Int) && srtC l)) then (some (.tuple [], [some (.arr 80 (srt [] l) false)])) else none := by kernel_rfl
theorem r79_3 (lab : Lab) (m : Int) (l : List D) : evL (Γ mx) H79 lab 79 2 ⟨[(0, .ref 80 0), (1, .i .i64 0), (2, .i .i64 3), (3, .i .i64 m), (4, .fn 52 []), (10, .b true), (11, .b true)], [some (.arr 80 l false)]⟩ =
  bif (Nat.beq l.length (srt [] l).length && true) && ((0 : Int) == 0 && ((3 : Int) == (l.length : Int) && srtC l)) then (some (.tuple [], [some (.arr 80 (srt [] l) false)])) else none := by kernel_rfl
theorem r79_4 (lab : Lab) (m : Int) (l : List D) : evL (Γ mx) H79 lab 79 2 ⟨[(0, .ref 80 0), (1, .i .i64 0), (2, .i .i64 4), (3, .i .i64 m), (4, .fn 52 []), (10, .b true), (11, .b true)], [some (.arr 80 l false)]⟩ =
  bif (Nat.beq l.length (srt [] l).length && true) && ((0 : Int) == 0 && ((4 : Int) == (l.length : Int) && srtC l)) then (some (.tuple [], [some (.arr 80 (srt [] l) false)])) else none := by kernel_rfl
theorem r79_5 (lab : Lab) (m : Int) (l : List D) : evL (Γ mx) H79 lab 79 2 ⟨[(0, .ref 80 0), (1, .i .i64 0), (2, .i .i64 5), (3, .i .i64 m), (4, .fn 52 []), (10, .b true), (11, .b true)], [some (.arr 80 l false)]⟩ =
  bif (Nat.beq l.length (srt [] l).length && true) && ((0 : Int) == 0 && ((5 : Int) == (l.length : Int) && srtC l)) then (some (.tuple [], [some (.arr 80 (srt [] l) false)])) else none := by kernel_rfl
theorem r79_6 (lab : Lab) (m : Int) (l : List D) : evL (Γ mx) H79 lab 79 2 ⟨[(0, .ref 80 0), (1, .i .i64 0), (2, .i .i64 6), (3, .i .i64 m), (4, .fn 52 []), (10, .b true), (11, .b true)], [some (.arr 80 l false)]⟩ =
  bif (Nat.beq l.length (srt [] l).length && true) && ((0 : Int) == 0 && ((6 : Int) == (l.length : Int) && srtC l)) then (some (.tuple [], [some (.arr 80 (srt [] l) false)])) else none := by kernel_rfl
theorem r79_7 (lab : Lab) (m : Int) (l : List D) : evL (Γ mx) H79 lab 79 2 ⟨[(0, .ref 80 0), (1, .i .i64 0), (2, .i .i64 7), (3, .i .i64 m), (4, .fn 52 []), (10, .b true), (11, .b true)], [some (.arr 80 l false)]⟩ =
  bif (Nat.beq l.length (srt [] l).length && true) && ((0 : Int) == 0 && ((7 : Int) == (l.length : Int) && srtC l)) then (some (.tuple [], [some (.arr 80 (srt [] l) false)])) else none := by kernel_rfl
theorem r79_8 (lab : Lab) (m : Int) (l : List D) : evL (Γ mx) H79 lab 79 2 ⟨[(0, .ref 80 0), (1, .i .i64 0), (2, .i .i64 8), (3, .i .i64 m), (4, .fn 52 []), (10, .b true), (11, .b true)], [some (.arr 80 l false)]⟩ =
  bif (Nat.beq l.length (srt [] l).length && true) && ((0 : Int) == 0 && ((8 : Int) == (l.length : Int) && srtC l)) then (some (.tuple [], [some (.arr 80 (srt [] l) false)])) else none := by kernel_rfl
def H51 : Handle := runS [⟨80, dat spLen⟩, ⟨79, xPdq⟩]
theorem r51 (lab : Lab) (l : List D) : evF (Γ mx) H51 lab 51 [.ref 80 0, .fn 52 []] [some (.arr 80 l false)] =
  bif lenC (IntKind.wrap .u64 ((l.length : Int))) then (bif (Nat.beq l.length (srt [] l).length && true) && ((0 : Int) == 0 && (((l.length : Int) : Int) == (l.length : Int) && srtC l)) then (some (.tuple [], [some (.arr 80 (srt [] l) false)])) else none) else none := by kernel_rfl
end Go.Proofs.YtjbemleloffafaaDoor.V

/- Tags: what the machine over values makes of the functions, part two: equations, written by program. -/
namespace Go.Proofs.YtjbemleloffafaaDoor.V
open Go
set_option maxRecDepth 100000
set_option linter.unusedVariables false
set_option linter.unusedSimpArgs false
variable {mx : Int}
def H22 : Handle := runS [⟨50, xClone⟩, ⟨51, xSort⟩, ⟨26, dat (spL1s 80 tC fun l => .b (tsB l))⟩, ⟨53, dat (spL1 80 (fun _ => true) fun l => .sl 80 .cl l)⟩]
theorem r22 (lab : Lab) (x : D) (r : List D) : evF (Γ mx) H22 lab 22 [.sl 80 .any ((x :: r))] [] =
  bif decide (((((x :: r)).length : Int)) > 8) then (some (.tuple [.snil, .i .i64 9], [])) else (bif tC ((x :: r)) then (bif (Nat.beq ((x :: r)).length (srt [] ((x :: r))).length && true) && srtC ((x :: r)) then (lab (todoAt (Γ mx) 22 6) ⟨[(4, .ref 80 0), (5, .i .i64 1)], [some (.arr 80 (srt [] ((x :: r))) false)]⟩) else none) else none) := by kernel_rfl
theorem r22_6a (lab : Lab) (n1 : Int) (l2 : List D) : evL (Γ mx) H22 lab 22 6 ⟨[(4, .ref 80 0), (5, .i .i64 n1)], [some (.arr 80 l2 false)]⟩ =
  bif decide (n1 < ((l2.length : Int))) then (bif decide ((0:Int) ≤ n1) && decide (n1 < (l2.length : Int)) then (lGet l2 (Int.toNat n1) fun y3 => dAgg y3 fun y4 => lGet y4 0 fun y5 => dStr y5 fun s6 => bif decide ((0:Int) ≤ (IntKind.wrap .i64 (n1 - 1))) && decide ((IntKind.wrap .i64 (n1 - 1)) < (l2.length : Int)) then (lGet l2 (Int.toNat (IntKind.wrap .i64 (n1 - 1))) fun y7 => dAgg y7 fun y8 => lGet y8 0 fun y9 => dStr y9 fun s10 => bif s6 == s10 then (some (.tuple [.snil, .i .i64 8], [])) else (lab (todoAt (Γ mx) 22 6) ⟨[(4, .ref 80 0), (5, .i .i64 (IntKind.wrap .i64 (n1 + 1)))], [some (.arr 80 l2 false)]⟩)) else none) else none) else (bif tC l2 then (bif !(tsB l2) then (some (.tuple [.snil, .i .i64 2], [])) else (some (.tuple [.sl 80 .cl l2, .i .i64 0], []))) else none) := by kernel_rfl
def H23 : Handle := runS [⟨27, dat (spL1s 80 tC fun l => .b (tsB l))⟩]
theorem r23 (lab : Lab) (l : List D) : evF (Γ mx) H23 lab 23 [.sl 80 .any l] [] =
  bif decide (((l.length : Int)) > 8) then (some (.tuple [.snil, .i .i64 9], [])) else (lab (todoAt (Γ mx) 23 5) ⟨[(0, .sl 80 .any l), (4, .sl 80 .ex []), (5, .i .i64 0)], []⟩) := by kernel_rfl
theorem r23_5a (lab : Lab) (l1 : List D) (l2 : List D) (n3 : Int) : evL (Γ mx) H23 lab 23 5 ⟨[(0, .sl 80 .any l1), (4, .sl 80 .ex l2), (5, .i .i64 n3)], []⟩ =
  bif decide (n3 < ((l1.length : Int))) then (lab (todoAt (Γ mx) 23 9) ⟨[(0, .sl 80 .any l1), (4, .sl 80 .ex l2), (5, .i .i64 n3), (6, .i .i64 0), (7, .i .i64 0)], []⟩) else (bif tC l2 then (bif !(tsB l2) then (some (.tuple [.snil, .i .i64 2], [])) else (some (.tuple [.sl 80 .ex l2, .i .i64 0], []))) else none) := by kernel_rfl
theorem r23_9a (lab : Lab) (l1 : List D) (l2 : List D) (n3 : Int) (n4 : Int) (n5 : Int) : evL (Γ mx) H23 lab 23 9 ⟨[(0, .sl 80 .any l1), (4, .sl 80 .ex l2), (5, .i .i64 n3), (6, .i .i64 n4), (7, .i .i64 n5)], []⟩ =
  bif decide (n5 < ((l2.length : Int))) then (idx l2 n5 fun y6 => dAgg y6 fun y7 => lGet y7 0 fun y8 => dStr y8 fun s9 => idx l1 n3 fun y10 => dAgg y10 fun y11 => lGet y11 0 fun y12 => dStr y12 fun s13 => bif s9 == s13 then (some (.tuple [.snil, .i .i64 8], [])) else (idx l2 n5 fun y14 => dAgg y14 fun y15 => lGet y15 0 fun y16 => dStr y16 fun s17 => idx l1 n3 fun y18 => dAgg y18 fun y19 => lGet y19 0 fun y20 => dStr y20 fun s21 => bif lessB s17 s21 then (lab (todoAt (Γ mx) 23 9) ⟨[(0, .sl 80 .any l1), (4, .sl 80 .ex l2), (5, .i .i64 n3), (6, .i .i64 (IntKind.wrap .i64 (n5 + 1))), (7, .i .i64 (IntKind.wrap .i64 (n5 + 1)))], []⟩) else (lab (todoAt (Γ mx) 23 9) ⟨[(0, .sl 80 .any l1), (4, .sl 80 .ex l2), (5, .i .i64 n3), (6, .i .i64 n4), (7, .i .i64 (IntKind.wrap .i64 (n5 + 1)))], []⟩))) else (bif decide ((0:Int) ≤ n4) && decide (n4 ≤ (l2.length : Int)) then (onNil (List.take ((Int.toNat n4) - 0) (List.drop 0 l2)) (idx l1 n3 fun y22 => dAgg y22 fun y23 => lCons y23 fun a24 r25 => dStr a24 fun s26 => lCons r25 fun a27 r28 => dStr a27 fun s29 => lNil r28 (bif decide ((0:Int) ≤ n4) && decide (n4 ≤ (l2.length : Int)) then (bif roomB (1 + (List.take ((l2.length) - (Int.toNat n4)) (List.drop (Int.toNat n4) l2)).length) 32 then (lab (todoAt (Γ mx) 23 5) ⟨[(0, .sl 80 .any l1), (4, .ref 80 0), (5, .i .i64 (IntKind.wrap .i64 (n3 + 1)))], [some (.arr 80 ([D.agg [D.str s26, D.str s29]] ++ (List.take ((l2.length) - (Int.toNat n4)) (List.drop (Int.toNat n4) l2))) false)]⟩) else none) else none)) (bif roomB (0 + (List.take ((Int.toNat n4) - 0) (List.drop 0 l2)).length) 32 then (idx l1 n3 fun y30 => dAgg y30 fun y31 => lCons y31 fun a32 r33 => dStr a32 fun s34 => lCons r33 fun a35 r36 => dStr a35 fun s37 => lNil r36 (bif roomB ((List.take ((Int.toNat n4) - 0) (List.drop 0 l2)).length + 1) 32 then (bif decide ((0:Int) ≤ n4) && decide (n4 ≤ (l2.length : Int)) then (bif roomB (((List.take ((Int.toNat n4) - 0) (List.drop 0 l2)) ++ [D.agg [D.str s34, D.str s37]]).length + (List.take ((l2.length) - (Int.toNat n4)) (List.drop (Int.toNat n4) l2)).length) 32 then (lab (todoAt (Γ mx) 23 5) ⟨[(0, .sl 80 .any l1), (4, .ref 80 0), (5, .i .i64 (IntKind.wrap .i64 (n3 + 1)))], [some (.arr 80 (((List.take ((Int.toNat n4) - 0) (List.drop 0 l2)) ++ [D.agg [D.str s34, D.str s37]]) ++ (List.take ((l2.length) - (Int.toNat n4)) (List.drop (Int.toNat n4) l2))) false)]⟩) else none) else none) else none)) else none)) else none) := by kernel_rfl
theorem r23_5b (lab : Lab) (l1 : List D) (n2 : Int) (l3 : List D) : evL (Γ mx) H23 lab 23 5 ⟨[(0, .sl 80 .any l1), (4, .ref 80 0), (5, .i .i64 n2)], [some (.arr 80 l3 false)]⟩ =
  bif decide (n2 < ((l1.length : Int))) then (lab (todoAt (Γ mx) 23 9) ⟨[(0, .sl 80 .any l1), (4, .ref 80 0), (5, .i .i64 n2), (6, .i .i64 0), (7, .i .i64 0)], [some (.arr 80 l3 false)]⟩) else (bif tC l3 then (bif !(tsB l3) then (some (.tuple [.snil, .i .i64 2], [])) else (some (.tuple [.sl 80 .any l3, .i .i64 0], []))) else none) := by kernel_rfl
theorem r23_9b (lab : Lab) (l1 : List D) (n2 : Int) (n3 : Int) (n4 : Int) (l5 : List D) : evL (Γ mx) H23 lab 23 9 ⟨[(0, .sl 80 .any l1), (4, .ref 80 0), (5, .i .i64 n2), (6, .i .i64 n3), (7, .i .i64 n4)], [some (.arr 80 l5 false)]⟩ =
  bif decide (n4 < ((l5.length : Int))) then (bif decide ((0:Int) ≤ n4) && decide (n4 < (l5.length : Int)) then (lGet l5 (Int.toNat n4) fun y6 => dAgg y6 fun y7 => lGet y7 0 fun y8 => dStr y8 fun s9 => idx l1 n2 fun y10 => dAgg y10 fun y11 => lGet y11 0 fun y12 => dStr y12 fun s13 => bif s9 == s13 then (some (.tuple [.snil, .i .i64 8], [])) else (bif decide ((0:Int) ≤ n4) && decide (n4 < (l5.length : Int)) then (lGet l5 (Int.toNat n4) fun y14 => dAgg y14 fun y15 => lGet y15 0 fun y16 => dStr y16 fun s17 => idx l1 n2 fun y18 => dAgg y18 fun y19 => lGet y19 0 fun y20 => dStr y20 fun s21 => bif lessB s17 s21 then (lab (todoAt (Γ mx) 23 9) ⟨[(0, .sl 80 .any l1), (4, .ref 80 0), (5, .i .i64 n2), (6, .i .i64 (IntKind.wrap .i64 (n4 + 1))), (7, .i .i64 (IntKind.wrap .i64 (n4 + 1)))], [some (.arr 80 l5 false)]⟩) else (lab (todoAt (Γ mx) 23 9) ⟨[(0, .sl 80 .any l1), (4, .ref 80 0), (5, .i .i64 n2), (6, .i .i64 n3), (7, .i .i64 (IntKind.wrap .i64 (n4 + 1)))], [some (.arr 80 l5 false)]⟩)) else none)) else none) else (bif decide ((0:Int) ≤ n3) && decide (n3 ≤ (l5.length : Int)) then (onNil (List.take ((Int.toNat n3) - 0) (List.drop 0 l5)) (idx l1 n2 fun y22 => dAgg y22 fun y23 => lCons y23 fun a24 r25 => dStr a24 fun s26 => lCons r25 fun a27 r28 => dStr a27 fun s29 => lNil r28 (bif decide ((0:Int) ≤ n3) && decide (n3 ≤ (l5.length : Int)) then (bif roomB (1 + (List.take ((l5.length) - (Int.toNat n3)) (List.drop (Int.toNat n3) l5)).length) 32 then (lab (todoAt (Γ mx) 23 5) ⟨[(0, .sl 80 .any l1), (4, .ref 80 0), (5, .i .i64 (IntKind.wrap .i64 (n2 + 1)))], [some (.arr 80 ([D.agg [D.str s26, D.str s29]] ++ (List.take ((l5.length) - (Int.toNat n3)) (List.drop (Int.toNat n3) l5))) false)]⟩) else none) else none)) (bif roomB (0 + (List.take ((Int.toNat n3) - 0) (List.drop 0 l5)).length) 32 then (idx l1 n2 fun y30 => dAgg y30 fun y31 => lCons y31 fun a32 r33 => dStr a32 fun s34 => lCons r33 fun a35 r36 => dStr a35 fun s37 => lNil r36 (bif roomB ((List.take ((Int.toNat n3) - 0) (List.drop 0 l5)).length + 1) 32 then (bif decide ((0:Int) ≤ n3) && decide (n3 ≤ (l5.length : Int)) then (bif roomB (((List.take ((Int.toNat n3) - 0) (List.drop 0 l5)) ++ [D.agg [D.str s34, D.str s37]]).length + (List.take ((l5.length) - (Int.toNat n3)) (List.drop (Int.toNat n3) l5)).length) 32 then (lab (todoAt (Γ mx) 23 5) ⟨[(0, .sl 80 .any l1), (4, .ref 80 0), (5, .i .i64 (IntKind.wrap .i64 (n2 + 1)))], [some (.arr 80 (((List.take ((Int.toNat n3) - 0) (List.drop 0 l5)) ++ [D.agg [D.str s34, D.str s37]]) ++ (List.take ((l5.length) - (Int.toNat n3)) (List.drop (Int.toNat n3) l5))) false)]⟩) else none) else none) else none)) else none)) else none) := by kernel_rfl
def H28 : Handle := runS [⟨26, dat (spL1s 80 tC fun l => .b (tsB l))⟩, ⟨50, xClone⟩, ⟨29, dat (spLS 80 (fun l _ => tC l) fun l n => .tuple [.s (getS l n), .b (getB l n)])⟩, ⟨22, dat (spL1 80 tC fun l => .tuple [.sl 80 .any (mkL l), .i .i64 (mkE l)])⟩]
theorem r28 (lab : Lab) (a : List D) (x : D) (r : List D) : evF (Γ mx) H28 lab 28 [.sl 80 .any a, .sl 80 .any ((x :: r))] [] =
  bif tC a then (bif !(tsB a) then (some (.tuple [.snil, .i .i64 2], [])) else (bif tC (((x :: r))) then (bif !(tsB (((x :: r)))) then (some (.tuple [.snil, .i .i64 2], [])) else (bif tC ((x :: r)) then (lab (todoAt (Γ mx) 28 5) ⟨[(1, .sl 80 .any ((x :: r))), (6, .ref 80 0), (21, .sl 80 .any a), (22, .i .i64 ((a.length : Int))), (23, .i .i64 0)], [some (.arr 80 ((x :: r)) false)]⟩) else none)) else none)) else none := by kernel_rfl
theorem r28_5a (lab : Lab) (l1 : List D) (l2 : List D) (n3 : Int) (n4 : Int) (l5 : List D) : evL (Γ mx) H28 lab 28 5 ⟨[(1, .sl 80 .any l1), (6, .ref 80 0), (21, .sl 80 .any l2), (22, .i .i64 n3), (23, .i .i64 n4)], [some (.arr 80 l5 false)]⟩ =
  bif decide (n4 < n3) then (idx l2 n4 fun y6 => dAgg y6 fun y7 => lCons y7 fun a8 r9 => dStr a8 fun s10 => lCons r9 fun a11 r12 => dStr a11 fun s13 => lNil r12 (bif tC l1 then (bif !(getB l1 s10) then (bif roomB (l5.length + 1) 32 then (lab (todoAt (Γ mx) 28 5) ⟨[(1, .sl 80 .any l1), (6, .ref 80 0), (21, .sl 80 .any l2), (22, .i .i64 n3), (23, .i .i64 (IntKind.wrap .i64 (n4 + 1)))], [some (.arr 80 (l5 ++ [D.agg [D.str s10, D.str s13]]) false)]⟩) else none) else (lab (todoAt (Γ mx) 28 5) ⟨[(1, .sl 80 .any l1), (6, .ref 80 0), (21, .sl 80 .any l2), (22, .i .i64 n3), (23, .i .i64 (IntKind.wrap .i64 (n4 + 1)))], [some (.arr 80 l5 false)]⟩)) else none)) else (bif tC l5 then (some (.tuple [.sl 80 .any (mkL l5), .i .i64 (mkE l5)], [])) else none) := by kernel_rfl
theorem nr28 (lab : Lab) (a : List D) : evF (Γ mx) H28 lab 28 [.sl 80 .any a, .sl 80 .any []] [] =
  bif tC a then (bif !(tsB a) then (some (.tuple [.snil, .i .i64 2], [])) else (bif tC ([]) then (bif !(tsB ([])) then (some (.tuple [.snil, .i .i64 2], [])) else (lab (todoAt (Γ mx) 28 5) ⟨[(1, .sl 80 .any []), (6, .sl 80 .cl []), (21, .sl 80 .any a), (22, .i .i64 ((a.length : Int))), (23, .i .i64 0)], []⟩)) else none)) else none := by kernel_rfl
theorem nr28_5a (lab : Lab) (l1 : List D) (l2 : List D) (l3 : List D) (n4 : Int) (n5 : Int) : evL (Γ mx) H28 lab 28 5 ⟨[(1, .sl 80 .any l1), (6, .sl 80 .cl l2), (21, .sl 80 .any l3), (22, .i .i64 n4), (23, .i .i64 n5)], []⟩ =
  bif decide (n5 < n4) then (idx l3 n5 fun y6 => dAgg y6 fun y7 => lCons y7 fun a8 r9 => dStr a8 fun s10 => lCons r9 fun a11 r12 => dStr a11 fun s13 => lNil r12 (bif tC l1 then (bif !(getB l1 s10) then (bif roomB (l2.length + 1) 32 then (lab (todoAt (Γ mx) 28 5) ⟨[(1, .sl 80 .any l1), (6, .ref 80 0), (21, .sl 80 .any l3), (22, .i .i64 n4), (23, .i .i64 (IntKind.wrap .i64 (n5 + 1)))], [some (.arr 80 (l2 ++ [D.agg [D.str s10, D.str s13]]) false)]⟩) else none) else (lab (todoAt (Γ mx) 28 5) ⟨[(1, .sl 80 .any l1), (6, .sl 80 .cl l2), (21, .sl 80 .any l3), (22, .i .i64 n4), (23, .i .i64 (IntKind.wrap .i64 (n5 + 1)))], []⟩)) else none)) else (bif tC l2 then (some (.tuple [.sl 80 .any (mkL l2), .i .i64 (mkE l2)], [])) else none) := by kernel_rfl
theorem nr28_5b (lab : Lab) (l1 : List D) (l2 : List D) (n3 : Int) (n4 : Int) (l5 : List D) : evL (Γ mx) H28 lab 28 5 ⟨[(1, .sl 80 .any l1), (6, .ref 80 0), (21, .sl 80 .any l2), (22, .i .i64 n3), (23, .i .i64 n4)], [some (.arr 80 l5 false)]⟩ =
  bif decide (n4 < n3) then (idx l2 n4 fun y6 => dAgg y6 fun y7 => lCons y7 fun a8 r9 => dStr a8 fun s10 => lCons r9 fun a11 r12 => dStr a11 fun s13 => lNil r12 (bif tC l1 then (bif !(getB l1 s10) then (bif roomB (l5.length + 1) 32 then (lab (todoAt (Γ mx) 28 5) ⟨[(1, .sl 80 .any l1), (6, .ref 80 0), (21, .sl 80 .any l2), (22, .i .i64 n3), (23, .i .i64 (IntKind.wrap .i64 (n4 + 1)))], [some (.arr 80 (l5 ++ [D.agg [D.str s10, D.str s13]]) false)]⟩) else none) else (lab (todoAt (Γ mx) 28 5) ⟨[(1, .sl 80 .any l1), (6, .ref 80 0), (21, .sl 80 .any l2), (22, .i .i64 n3), (23, .i .i64 (IntKind.wrap .i64 (n4 + 1)))], [some (.arr 80 l5 false)]⟩)) else none)) else (bif tC l5 then (some (.tuple [.sl 80 .any (mkL l5), .i .i64 (mkE l5)], [])) else none) := by kernel_rfl
def H32 : Handle := runS [⟨26, dat (spL1s 80 tC fun l => .b (tsB l))⟩, ⟨57, dat (sp1 short fun p => .s (escV p))⟩, ⟨43, dat spJ2⟩]
theorem r32 (lab : Lab) (l : List D) : evF (Γ mx) H32 lab 32 [.sl 80 .any l] [] =
  bif tC l then (bif !(tsB l) then (some (.tuple [.s ([] : List UInt8), .i .i64 2], [])) else (lab (todoAt (Γ mx) 32 5) ⟨[(4, .snil), (10, .sl 80 .any l), (11, .i .i64 ((l.length : Int))), (12, .i .i64 0)], []⟩)) else none := by kernel_rfl
theorem r32_5a (lab : Lab) (l1 : List D) (n2 : Int) (n3 : Int) : evL (Γ mx) H32 lab 32 5 ⟨[(4, .snil), (10, .sl 80 .any l1), (11, .i .i64 n2), (12, .i .i64 n3)], []⟩ =
  bif decide (n3 < n2) then (idx l1 n3 fun y4 => dAgg y4 fun y5 => lCons y5 fun a6 r7 => dStr a6 fun s8 => lCons r7 fun a9 r10 => dStr a9 fun s11 => lNil r10 (bif short s8 then (bif decide (List.length (escV s8) + List.length ([61] : List UInt8) ≤ maxStr) then (bif short s11 then (bif decide (List.length ((escV s8) ++ ([61] : List UInt8)) + List.length (escV s11) ≤ maxStr) then (lab (todoAt (Γ mx) 32 5) ⟨[(4, .ref 9 0), (10, .sl 80 .any l1), (11, .i .i64 n2), (12, .i .i64 (IntKind.wrap .i64 (n3 + 1)))], [some (.arr 9 [D.str (((escV s8) ++ ([61] : List UInt8)) ++ (escV s11))] false)]⟩) else none) else none) else none) else none)) else (bif joinC [] ([38] : List UInt8) then (some (.tuple [.s (joinV [] ([38] : List UInt8)), .i .i64 0], [])) else none) := by kernel_rfl
theorem r32_5b (lab : Lab) (l1 : List D) (n2 : Int) (n3 : Int) (l4 : List D) : evL (Γ mx) H32 lab 32 5 ⟨[(4, .ref 9 0), (10, .sl 80 .any l1), (11, .i .i64 n2), (12, .i .i64 n3)], [some (.arr 9 l4 false)]⟩ =
  bif decide (n3 < n2) then (idx l1 n3 fun y5 => dAgg y5 fun y6 => lCons y6 fun a7 r8 => dStr a7 fun s9 => lCons r8 fun a10 r11 => dStr a10 fun s12 => lNil r11 (bif short s9 then (bif decide (List.length (escV s9) + List.length ([61] : List UInt8) ≤ maxStr) then (bif short s12 then (bif decide (List.length ((escV s9) ++ ([61] : List UInt8)) + List.length (escV s12) ≤ maxStr) then (bif roomB (l4.length + 1) 16 then (lab (todoAt (Γ mx) 32 5) ⟨[(4, .ref 9 0), (10, .sl 80 .any l1), (11, .i .i64 n2), (12, .i .i64 (IntKind.wrap .i64 (n3 + 1)))], [some (.arr 9 (l4 ++ [D.str (((escV s9) ++ ([61] : List UInt8)) ++ (escV s12))]) false)]⟩) else none) else none) else none) else none) else none)) else (bif joinC l4 ([38] : List UInt8) then (some (.tuple [.s (joinV l4 ([38] : List UInt8)), .i .i64 0], [])) else none) := by kernel_rfl
def H33 : Handle := runS [⟨27, dat (spL1s 80 tC fun l => .b (tsB l))⟩, ⟨58, dat (sp1 short fun p => .s (escV p))⟩]
theorem r33 (lab : Lab) (l : List D) : evF (Γ mx) H33 lab 33 [.sl 80 .any l] [] =
  bif tC l then (bif !(tsB l) then (some (.tuple [.s ([] : List UInt8), .i .i64 2], [])) else (lab (todoAt (Γ mx) 33 5) ⟨[(0, .sl 80 .any l), (4, .s ([] : List UInt8)), (5, .i .i64 0)], []⟩)) else none := by kernel_rfl
theorem r33_5a (lab : Lab) (l1 : List D) (s2 : List UInt8) (n3 : Int) : evL (Γ mx) H33 lab 33 5 ⟨[(0, .sl 80 .any l1), (4, .s s2), (5, .i .i64 n3)], []⟩ =
  bif decide (n3 < ((l1.length : Int))) then (bif decide (n3 > 0) then (bif decide (List.length s2 + List.length ([38] : List UInt8) ≤ maxStr) then (idx l1 n3 fun y4 => dAgg y4 fun y5 => lGet y5 0 fun y6 => dStr y6 fun s7 => bif short s7 then (bif decide (List.length (escV s7) + List.length ([61] : List UInt8) ≤ maxStr) then (idx l1 n3 fun y8 => dAgg y8 fun y9 => lGet y9 1 fun y10 => dStr y10 fun s11 => bif short s11 then (bif decide (List.length ((escV s7) ++ ([61] : List UInt8)) + List.length (escV s11) ≤ maxStr) then (bif decide (List.length (s2 ++ ([38] : List UInt8)) + List.length (((escV s7) ++ ([61] : List UInt8)) ++ (escV s11)) ≤ maxStr) then (lab (todoAt (Γ mx) 33 5) ⟨[(0, .sl 80 .any l1), (4, .s ((s2 ++ ([38] : List UInt8)) ++ (((escV s7) ++ ([61] : List UInt8)) ++ (escV s11)))), (5, .i .i64 (IntKind.wrap .i64 (n3 + 1)))], []⟩) else none) else none) else none) else none) else none) else none) else (idx l1 n3 fun y12 => dAgg y12 fun y13 => lGet y13 0 fun y14 => dStr y14 fun s15 => bif short s15 then (bif decide (List.length (escV s15) + List.length ([61] : List UInt8) ≤ maxStr) then (idx l1 n3 fun y16 => dAgg y16 fun y17 => lGet y17 1 fun y18 => dStr y18 fun s19 => bif short s19 then (bif decide (List.length ((escV s15) ++ ([61] : List UInt8)) + List.length (escV s19) ≤ maxStr) then (bif decide (List.length s2 + List.length (((escV s15) ++ ([61] : List UInt8)) ++ (escV s19)) ≤ maxStr) then (lab (todoAt (Γ mx) 33 5) ⟨[(0, .sl 80 .any l1), (4, .s (s2 ++ (((escV s15) ++ ([61] : List UInt8)) ++ (escV s19)))), (5, .i .i64 (IntKind.wrap .i64 (n3 + 1)))], []⟩) else none) else none) else none) else none) else none)) else (some (.tuple [.s s2, .i .i64 0], [])) := by kernel_rfl
def H34 : Handle := runS [⟨46, dat spSp38⟩, ⟨59, dat spCut⟩, ⟨60, dat (sp1 short fun p => .tuple [.s (unS p), .i .i64 (unE p)])⟩, ⟨26, dat (spL1s 80 tC fun l => .b (tsB l))⟩]
theorem r34 (lab : Lab) (s : List UInt8) : evF (Γ mx) H34 lab 34 [.s s] [] =
  bif s == ([] : List UInt8) then (some (.tuple [.snil, .i .i64 0], [])) else (bif s32 s then (lab (todoAt (Γ mx) 34 5) ⟨[(4, .snil), (17, .sl 9 .ex (splitC 38 s)), (18, .i .i64 (((splitC 38 s).length : Int))), (19, .i .i64 0)], []⟩) else none) := by kernel_rfl
theorem r34_5a (lab : Lab) (l1 : List D) (n2 : Int) (n3 : Int) : evL (Γ mx) H34 lab 34 5 ⟨[(4, .snil), (17, .sl 9 .ex l1), (18, .i .i64 n2), (19, .i .i64 n3)], []⟩ =
  bif decide (n3 < n2) then (idx l1 n3 fun y4 => dStr y4 fun s5 => bif s32 s5 then (bif short (tcA s5) then (bif short (tcB s5) then (bif !(tcF s5) then (some (.tuple [.snil, .i .i64 5], [])) else (bif (unE (tcA s5)) != 0 then (some (.tuple [.snil, .i .i64 5], [])) else (bif (unE (tcB s5)) != 0 then (some (.tuple [.snil, .i .i64 5], [])) else (lab (todoAt (Γ mx) 34 5) ⟨[(4, .ref 80 0), (17, .sl 9 .ex l1), (18, .i .i64 n2), (19, .i .i64 (IntKind.wrap .i64 (n3 + 1)))], [some (.arr 80 [D.agg [D.str (unS (tcA s5)), D.str (unS (tcB s5))]] false)]⟩)))) else none) else none) else none) else (bif tC [] then (bif !(tsB []) then (some (.tuple [.snil, .i .i64 2], [])) else (some (.tuple [.snil, .i .i64 0], []))) else none) := by kernel_rfl
theorem r34_5b (lab : Lab) (l1 : List D) (n2 : Int) (n3 : Int) (l4 : List D) : evL (Γ mx) H34 lab 34 5 ⟨[(4, .ref 80 0), (17, .sl 9 .ex l1), (18, .i .i64 n2), (19, .i .i64 n3)], [some (.arr 80 l4 false)]⟩ =
  bif decide (n3 < n2) then (idx l1 n3 fun y5 => dStr y5 fun s6 => bif s32 s6 then (bif short (tcA s6) then (bif short (tcB s6) then (bif !(tcF s6) then (some (.tuple [.snil, .i .i64 5], [])) else (bif (unE (tcA s6)) != 0 then (some (.tuple [.snil, .i .i64 5], [])) else (bif (unE (tcB s6)) != 0 then (some (.tuple [.snil, .i .i64 5], [])) else (bif roomB (l4.length + 1) 32 then (lab (todoAt (Γ mx) 34 5) ⟨[(4, .ref 80 0), (17, .sl 9 .ex l1), (18, .i .i64 n2), (19, .i .i64 (IntKind.wrap .i64 (n3 + 1)))], [some (.arr 80 (l4 ++ [D.agg [D.str (unS (tcA s6)), D.str (unS (tcB s6))]]) false)]⟩) else none)))) else none) else none) else none) else (bif tC l4 then (bif !(tsB l4) then (some (.tuple [.snil, .i .i64 2], [])) else (some (.tuple [.sl 80 .any l4, .i .i64 0], []))) else none) := by kernel_rfl
def H35 : Handle := runS [⟨49, dat (sp1 short fun p => .tuple [.s (unS p), .i .i64 (unE p)])⟩, ⟨27, dat (spL1s 80 tC fun l => .b (tsB l))⟩]
theorem r35 (lab : Lab) (s : List UInt8) : evF (Γ mx) H35 lab 35 [.s s] [] =
  bif s == ([] : List UInt8) then (some (.tuple [.sl 80 .ex [], .i .i64 0], [])) else (lab (todoAt (Γ mx) 35 6) ⟨[(0, .s s), (4, .sl 80 .ex []), (5, .i .i64 0), (6, .i .i64 0)], []⟩) := by kernel_rfl
theorem r35_6a (lab : Lab) (s1 : List UInt8) (l2 : List D) (n3 : Int) (n4 : Int) : evL (Γ mx) H35 lab 35 6 ⟨[(0, .s s1), (4, .sl 80 .ex l2), (5, .i .i64 n3), (6, .i .i64 n4)], []⟩ =
  bif decide (n4 ≤ ((List.length s1 : Int))) then (bif decide (n4 < ((List.length s1 : Int))) then (idx s1 n4 fun c5 => bif ((c5.toNat : Int)) != 38 then (lab (todoAt (Γ mx) 35 6) ⟨[(0, .s s1), (4, .sl 80 .ex l2), (5, .i .i64 n3), (6, .i .i64 (IntKind.wrap .i64 (n4 + 1)))], []⟩) else (bif decide ((0:Int) ≤ n4) && decide (n4 ≤ (List.length s1 : Int)) then (bif decide ((0:Int) ≤ n3) && decide (n3 ≤ (Int.toNat n4 : Int)) then (lab (todoAt (Γ mx) 35 13) ⟨[(0, .s s1), (4, .sl 80 .ex l2), (5, .i .i64 (IntKind.wrap .i64 (n4 + 1))), (6, .i .i64 n4), (7, .s (List.take ((Int.toNat n4) - (Int.toNat n3)) (List.drop (Int.toNat n3) s1))), (8, .i .i64 0), (9, .i .i64 0), (10, .i .i64 0)], []⟩) else none) else none)) else (bif decide ((0:Int) ≤ n4) && decide (n4 ≤ (List.length s1 : Int)) then (bif decide ((0:Int) ≤ n3) && decide (n3 ≤ (Int.toNat n4 : Int)) then (lab (todoAt (Γ mx) 35 13) ⟨[(0, .s s1), (4, .sl 80 .ex l2), (5, .i .i64 (IntKind.wrap .i64 (n4 + 1))), (6, .i .i64 n4), (7, .s (List.take ((Int.toNat n4) - (Int.toNat n3)) (List.drop (Int.toNat n3) s1))), (8, .i .i64 0), (9, .i .i64 0), (10, .i .i64 0)], []⟩) else none) else none)) else (bif tC l2 then (bif !(tsB l2) then (some (.tuple [.snil, .i .i64 2], [])) else (some (.tuple [.sl 80 .ex l2, .i .i64 0], []))) else none) := by kernel_rfl
theorem r35_13a (lab : Lab) (s1 : List UInt8) (l2 : List D) (n3 : Int) (n4 : Int) (s5 : List UInt8) (n6 : Int) (n7 : Int) (n8 : Int) : evL (Γ mx) H35 lab 35 13 ⟨[(0, .s s1), (4, .sl 80 .ex l2), (5, .i .i64 n3), (6, .i .i64 n4), (7, .s s5), (8, .i .i64 n6), (9, .i .i64 n7), (10, .i .i64 n8)], []⟩ =
  bif decide (n8 < ((List.length s5 : Int))) then (idx s5 n8 fun c9 => bif ((c9.toNat : Int)) == 61 then (lab (todoAt (Γ mx) 35 13) ⟨[(0, .s s1), (4, .sl 80 .ex l2), (5, .i .i64 n3), (6, .i .i64 n4), (7, .s s5), (8, .i .i64 n8), (9, .i .i64 (IntKind.wrap .i64 (n7 + 1))), (10, .i .i64 (IntKind.wrap .i64 (n8 + 1)))], []⟩) else (lab (todoAt (Γ mx) 35 13) ⟨[(0, .s s1), (4, .sl 80 .ex l2), (5, .i .i64 n3), (6, .i .i64 n4), (7, .s s5), (8, .i .i64 n6), (9, .i .i64 n7), (10, .i .i64 (IntKind.wrap .i64 (n8 + 1)))], []⟩)) else (bif n7 != 1 then (some (.tuple [.snil, .i .i64 5], [])) else (bif decide ((0:Int) ≤ n6) && decide (n6 ≤ (List.length s5 : Int)) then (bif short (List.take ((Int.toNat n6) - 0) (List.drop 0 s5)) then (bif decide ((0:Int) ≤ (IntKind.wrap .i64 (n6 + 1))) && decide ((IntKind.wrap .i64 (n6 + 1)) ≤ (List.length s5 : Int)) then (bif short (List.take ((List.length s5) - (Int.toNat (IntKind.wrap .i64 (n6 + 1)))) (List.drop (Int.toNat (IntKind.wrap .i64 (n6 + 1))) s5)) then (bif (unE (List.take ((Int.toNat n6) - 0) (List.drop 0 s5))) != 0 then (some (.tuple [.snil, .i .i64 5], [])) else (bif (unE (List.take ((List.length s5) - (Int.toNat (IntKind.wrap .i64 (n6 + 1)))) (List.drop (Int.toNat (IntKind.wrap .i64 (n6 + 1))) s5))) != 0 then (some (.tuple [.snil, .i .i64 5], [])) else (bif roomB (l2.length + 1) 32 then (lab (todoAt (Γ mx) 35 6) ⟨[(0, .s s1), (4, .ref 80 0), (5, .i .i64 n3), (6, .i .i64 (IntKind.wrap .i64 (n4 + 1)))], [some (.arr 80 (l2 ++ [D.agg [D.str (unS (List.take ((Int.toNat n6) - 0) (List.drop 0 s5))), D.str (unS (List.take ((List.length s5) - (Int.toNat (IntKind.wrap .i64 (n6 + 1)))) (List.drop (Int.toNat (IntKind.wrap .i64 (n6 + 1))) s5)))]]) false)]⟩) else none))) else none) else none) else none) else none)) := by kernel_rfl
theorem r35_6b (lab : Lab) (s1 : List UInt8) (n2 : Int) (n3 : Int) (l4 : List D) : evL (Γ mx) H35 lab 35 6 ⟨[(0, .s s1), (4, .ref 80 0), (5, .i .i64 n2), (6, .i .i64 n3)], [some (.arr 80 l4 false)]⟩ =
  bif decide (n3 ≤ ((List.length s1 : Int))) then (bif decide (n3 < ((List.length s1 : Int))) then (idx s1 n3 fun c5 => bif ((c5.toNat : Int)) != 38 then (lab (todoAt (Γ mx) 35 6) ⟨[(0, .s s1), (4, .ref 80 0), (5, .i .i64 n2), (6, .i .i64 (IntKind.wrap .i64 (n3 + 1)))], [some (.arr 80 l4 false)]⟩) else (bif decide ((0:Int) ≤ n3) && decide (n3 ≤ (List.length s1 : Int)) then (bif decide ((0:Int) ≤ n2) && decide (n2 ≤ (Int.toNat n3 : Int)) then (lab (todoAt (Γ mx) 35 13) ⟨[(0, .s s1), (4, .ref 80 0), (5, .i .i64 (IntKind.wrap .i64 (n3 + 1))), (6, .i .i64 n3), (7, .s (List.take ((Int.toNat n3) - (Int.toNat n2)) (List.drop (Int.toNat n2) s1))), (8, .i .i64 0), (9, .i .i64 0), (10, .i .i64 0)], [some (.arr 80 l4 false)]⟩) else none) else none)) else (bif decide ((0:Int) ≤ n3) && decide (n3 ≤ (List.length s1 : Int)) then (bif decide ((0:Int) ≤ n2) && decide (n2 ≤ (Int.toNat n3 : Int)) then (lab (todoAt (Γ mx) 35 13) ⟨[(0, .s s1), (4, .ref 80 0), (5, .i .i64 (IntKind.wrap .i64 (n3 + 1))), (6, .i .i64 n3), (7, .s (List.take ((Int.toNat n3) - (Int.toNat n2)) (List.drop (Int.toNat n2) s1))), (8, .i .i64 0), (9, .i .i64 0), (10, .i .i64 0)], [some (.arr 80 l4 false)]⟩) else none) else none)) else (bif tC l4 then (bif !(tsB l4) then (some (.tuple [.snil, .i .i64 2], [])) else (some (.tuple [.sl 80 .any l4, .i .i64 0], []))) else none) := by kernel_rfl
theorem r35_13b (lab : Lab) (s1 : List UInt8) (n2 : Int) (n3 : Int) (s4 : List UInt8) (n5 : Int) (n6 : Int) (n7 : Int) (l8 : List D) : evL (Γ mx) H35 lab 35 13 ⟨[(0, .s s1), (4, .ref 80 0), (5, .i .i64 n2), (6, .i .i64 n3), (7, .s s4), (8, .i .i64 n5), (9, .i .i64 n6), (10, .i .i64 n7)], [some (.arr 80 l8 false)]⟩ =
  bif decide (n7 < ((List.length s4 : Int))) then (idx s4 n7 fun c9 => bif ((c9.toNat : Int)) == 61 then (lab (todoAt (Γ mx) 35 13) ⟨[(0, .s s1), (4, .ref 80 0), (5, .i .i64 n2), (6, .i .i64 n3), (7, .s s4), (8, .i .i64 n7), (9, .i .i64 (IntKind.wrap .i64 (n6 + 1))), (10, .i .i64 (IntKind.wrap .i64 (n7 + 1)))], [some (.arr 80 l8 false)]⟩) else (lab (todoAt (Γ mx) 35 13) ⟨[(0, .s s1), (4, .ref 80 0), (5, .i .i64 n2), (6, .i .i64 n3), (7, .s s4), (8, .i .i64 n5), (9, .i .i64 n6), (10, .i .i64 (IntKind.wrap .i64 (n7 + 1)))], [some (.arr 80 l8 false)]⟩)) else (bif n6 != 1 then (some (.tuple [.snil, .i .i64 5], [])) else (bif decide ((0:Int) ≤ n5) && decide (n5 ≤ (List.length s4 : Int)) then (bif short (List.take ((Int.toNat n5) - 0) (List.drop 0 s4)) then (bif decide ((0:Int) ≤ (IntKind.wrap .i64 (n5 + 1))) && decide ((IntKind.wrap .i64 (n5 + 1)) ≤ (List.length s4 : Int)) then (bif short (List.take ((List.length s4) - (Int.toNat (IntKind.wrap .i64 (n5 + 1)))) (List.drop (Int.toNat (IntKind.wrap .i64 (n5 + 1))) s4)) then (bif (unE (List.take ((Int.toNat n5) - 0) (List.drop 0 s4))) != 0 then (some (.tuple [.snil, .i .i64 5], [])) else (bif (unE (List.take ((List.length s4) - (Int.toNat (IntKind.wrap .i64 (n5 + 1)))) (List.drop (Int.toNat (IntKind.wrap .i64 (n5 + 1))) s4))) != 0 then (some (.tuple [.snil, .i .i64 5], [])) else (bif roomB (l8.length + 1) 32 then (lab (todoAt (Γ mx) 35 6) ⟨[(0, .s s1), (4, .ref 80 0), (5, .i .i64 n2), (6, .i .i64 (IntKind.wrap .i64 (n3 + 1)))], [some (.arr 80 (l8 ++ [D.agg [D.str (unS (List.take ((Int.toNat n5) - 0) (List.drop 0 s4))), D.str (unS (List.take ((List.length s4) - (Int.toNat (IntKind.wrap .i64 (n5 + 1)))) (List.drop (Int.toNat (IntKind.wrap .i64 (n5 + 1))) s4)))]]) false)]⟩) else none))) else none) else none) else none) else none)) := by kernel_rfl
def H7 : Handle := runS [⟨22, dat (spL1 80 tC fun l => .tuple [.sl 80 .any (mkL l), .i .i64 (mkE l)])⟩, ⟨23, dat (spL1 80 tC fun l => .tuple [.sl 80 .any (mkL l), .i .i64 (mkE l)])⟩, ⟨24, dat (sp0 true (.b true))⟩, ⟨25, dat (spLL 80 80 (fun a b => tC a && tC b) fun a b => .b (sameT a b))⟩, ⟨26, dat (spL1s 80 tC fun l => .b (tsB l))⟩, ⟨27, dat (spL1s 80 tC fun l => .b (tsB l))⟩]
theorem r7 (lab : Lab) (l : List D) : evF (Γ mx) H7 lab 7 [.sl 80 .any l] [] =
  bif tC l then (bif tC l then (bif tC ((mkL l)) && tC ((mkL l)) then (bif sameT ((mkL l)) ((mkL l)) then (bif (mkE l) == (mkE l) then (bif tC l then (bif tC l then (some (.b ((tsB l) == (tsB l)), [])) else none) else none) else (some (.b false, []))) else (some (.b false, []))) else none) else none) else none := by kernel_rfl
def H8 : Handle := runS [⟨28, dat (spLL 80 80 (fun a b => tC a && tC b) fun a b => .tuple [.sl 80 .any (mgL a b), .i .i64 (mgE a b)])⟩, ⟨24, dat (sp0 true (.b true))⟩, ⟨29, dat (spLS 80 (fun l _ => tC l) fun l n => .tuple [.s (getS l n), .b (getB l n)])⟩, ⟨30, dat (spLL 80 80 (fun a b => tC a && tC b) fun a b => .b (withinB a b))⟩, ⟨26, dat (spL1s 80 tC fun l => .b (tsB l))⟩, ⟨31, dat (spLL 80 80 (fun a b => tC a && tC b) fun a b => .b (sameT a b))⟩]
theorem r8 (lab : Lab) (a : List D) (b : List D) (n : List UInt8) : evF (Γ mx) H8 lab 8 [.sl 80 .any a, .sl 80 .any b, .s n] [] =
  bif tC a && tC b then (bif (mgE a b) != 0 then (some (.b ((((mgL a b).length : Int)) == 0), [])) else (bif tC ((mgL a b)) then (bif tC a then (bif tC b then (bif tC ((mgL a b)) && tC b then (bif getB b n then (bif (getB ((mgL a b)) n) == true then (bif (getS ((mgL a b)) n) == (getS b n) then (bif tC b && tC ((mgL a b)) then (bif withinB b ((mgL a b)) then (bif tC ((mgL a b)) then (bif tsB ((mgL a b)) then (bif (mgE ((mgL a b)) b) == 0 then (bif tC ((mgL ((mgL a b)) b)) && tC ((mgL a b)) then (some (.b (sameT ((mgL ((mgL a b)) b)) ((mgL a b))), [])) else none) else (some (.b false, []))) else (some (.b false, []))) else none) else (some (.b false, []))) else none) else (some (.b false, []))) else (some (.b false, []))) else (bif (getB ((mgL a b)) n) == (getB a n) then (bif (getS ((mgL a b)) n) == (getS a n) then (bif tC b && tC ((mgL a b)) then (bif withinB b ((mgL a b)) then (bif tC ((mgL a b)) then (bif tsB ((mgL a b)) then (bif (mgE ((mgL a b)) b) == 0 then (bif tC ((mgL ((mgL a b)) b)) && tC ((mgL a b)) then (some (.b (sameT ((mgL ((mgL a b)) b)) ((mgL a b))), [])) else none) else (some (.b false, []))) else (some (.b false, []))) else none) else (some (.b false, []))) else none) else (some (.b false, []))) else (some (.b false, [])))) else none) else none) else none) else none)) else none := by kernel_rfl
def H9 : Handle := runS [⟨32, dat (spL1 80 tC fun l => .tuple [.s (txS l), .i .i64 (txE l)])⟩, ⟨33, dat (spL1 80 tC fun l => .tuple [.s (txS l), .i .i64 (txE l)])⟩, ⟨34, dat (sp1 short fun p => .tuple [.sl 80 .any (psL p), .i .i64 (psE p)])⟩, ⟨35, dat (sp1 short fun p => .tuple [.sl 80 .any (psL p), .i .i64 (psE p)])⟩, ⟨24, dat (sp0 true (.b true))⟩, ⟨25, dat (spLL 80 80 (fun a b => tC a && tC b) fun a b => .b (sameT a b))⟩]
theorem r9 (lab : Lab) (l : List D) (s : List UInt8) : evF (Γ mx) H9 lab 9 [.sl 80 .any l, .s s] [] =
  bif tC l then (bif tC l then (bif short s then (bif short s then (bif (txS l) == (txS l) then (bif (txE l) == (txE l) then (bif tC ((psL s)) && tC ((psL s)) then (bif sameT ((psL s)) ((psL s)) then (some (.b ((psE s) == (psE s)), [])) else (some (.b false, []))) else none) else (some (.b false, []))) else (some (.b false, []))) else none) else none) else none) else none := by kernel_rfl
def H10 : Handle := runS [⟨32, dat (spL1 80 tC fun l => .tuple [.s (txS l), .i .i64 (txE l)])⟩, ⟨34, dat (sp1 short fun p => .tuple [.sl 80 .any (psL p), .i .i64 (psE p)])⟩, ⟨24, dat (sp0 true (.b true))⟩, ⟨25, dat (spLL 80 80 (fun a b => tC a && tC b) fun a b => .b (sameT a b))⟩]
theorem r10 (lab : Lab) (l : List D) (s : List UInt8) : evF (Γ mx) H10 lab 10 [.sl 80 .any l, .s s] [] =
  bif tC l then (bif short (txS l) then (bif short s then (bif tC ((psL s)) then (bif (txE l) != 0 then (bif (psE s) != 0 then (some (.b true, [])) else (bif (txE ((psL s))) == 0 then (some (.b ((txS ((psL s))) == s), [])) else (some (.b false, [])))) else (bif (psE (txS l)) == 0 then (bif tC ((psL (txS l))) && tC l then (bif sameT ((psL (txS l))) l then (bif (psE s) != 0 then (some (.b true, [])) else (bif (txE ((psL s))) == 0 then (some (.b ((txS ((psL s))) == s), [])) else (some (.b false, [])))) else (some (.b false, []))) else none) else (some (.b false, [])))) else none) else none) else none) else none := by kernel_rfl
end Go.Proofs.YtjbemleloffafaaDoor.V

/- Tags: contracts: compare, sort, clone, clip, sound, get, within, same. -/
namespace Go.Proofs.YtjbemleloffafaaDoor.V
open Go
set_option maxRecDepth 100000
set_option linter.unusedVariables false
set_option linter.unusedSimpArgs false
section
variable {Γ : Ctx} {g : FuncId}
theorem RetX.args {args args' : List AV} {obs obs' : Objs} {r : AV} (h : RetX Γ g args obs r obs') (k : WkL Γ.P args' args) : RetX Γ g args' obs r obs' := fun w S σ X vals h0 h1 h2 => h w S σ X vals h0 h1 (k.rep h2)
theorem spL1s_ok {u : TypeId} {c : List D → Bool} {f : List D → AV} (h : ∀ l, c l = true → RetX Γ g [.sl u .any l] [] (f l) []) : SpecOK Γ ⟨g, dat (spL1s u c f)⟩ := dat_ok fun args r hr => by
  unfold spL1s at hr
  split at hr
  · simp only [Option.some.injEq, Prod.mk.injEq] at hr
    obtain ⟨h1, rfl⟩ := hr
    exact (h _ h1).args (.cons (WkA.nil u) .nil)
  · simp only [Option.some.injEq, Prod.mk.injEq, Bool.and_eq_true] at hr
    obtain ⟨⟨h1, h2⟩, rfl⟩ := hr
    obtain rfl := beq_id h1
    exact (h _ h2).anyc
  · exact absurd hr (by simp)
theorem spLL_ok {u v : TypeId} {c : List D → List D → Bool} {f : List D → List D → AV} (h : ∀ x y, c x y = true → RetX Γ g [.sl u .any x, .sl v .any y] [] (f x y) []) : SpecOK Γ ⟨g, dat (spLL u v c f)⟩ := dat_ok fun args r hr => by
  unfold spLL at hr
  split at hr
  · simp only [Option.some.injEq, Prod.mk.injEq, Bool.and_eq_true] at hr
    obtain ⟨⟨h1, h2, h3⟩, rfl⟩ := hr
    obtain rfl := beq_id h1
    obtain rfl := beq_id h2
    exact (h _ _ h3).args (.cons (WkA.sl _ _ _) (.cons (WkA.sl _ _ _) .nil))
  · exact absurd hr (by simp)
end
variable {mx : Int}
theorem tC_eq {l : List D} (h : tC l = true) : l.length ≤ 8388608 ∧ l.all shT = true := by simpa [tC] using h
theorem shT_is {d : D} (h : shT d = true) : isT d = true := by unfold shT at h; simp only [Bool.and_eq_true] at h; exact h.1
theorem shT_ex {d : D} (h : shT d = true) : ∃ a b, d = .agg [.str a, .str b] ∧ short a = true ∧ short b = true := by
  obtain ⟨a, b, rfl⟩ := isT_ex (shT_is h)
  unfold shT at h
  simp only [Bool.and_eq_true] at h
  exact ⟨a, b, rfl, h.2.1, h.2.2⟩
theorem sh_all {l : List D} (h : l.all shT = true) : l.all isT = true := List.all_eq_true.2 fun d hd => shT_is (List.all_eq_true.1 h d hd)
theorem c115 (x : List UInt8) (_ : true = true) : RetX (Γ mx) 115 [.s x] [] (.b false) [] := ret_goes (Γ := Γ mx) hP hZ none_ok (by kernel_rfl) ⟨0, by rw [r115]; simp⟩
theorem h81_ok : CallsOK (Γ mx) H81 := specs_ok (.cons (sp1_ok c115) .nil)
theorem c81 (x y : List UInt8) (_ : true = true) : RetX (Γ mx) 81 [.s x, .s y] [] (.i .i64 (cmpZ x y)) [] := ret_goes (Γ := Γ mx) hP hZ h81_ok (by kernel_rfl) ⟨0, by
  rw [r81, cmpZ]
  cases lessB x y with
  | true => rfl
  | false => cases (x == y) <;> rfl⟩
theorem h52_ok : CallsOK (Γ mx) H52 := specs_ok (.cons (sp2_ok c81) .nil)
theorem c52 (a b : D) (h : (isT a && isT b) = true) : RetX (Γ mx) 52 [.d 80 a, .d 80 b] [] (.i .i64 (ordZ a b)) [] := by
  simp only [Bool.and_eq_true] at h
  obtain ⟨a1, a2, rfl⟩ := isT_ex h.1
  obtain ⟨b1, b2, rfl⟩ := isT_ex h.2
  exact ret_goes (Γ := Γ mx) hP hZ h52_ok (by kernel_rfl) ⟨0, by rw [r52]; rfl⟩
theorem ord_lt (a b : D) : decide (ordZ a b < 0) = ltT a b := by
  unfold ordZ cmpZ ltT
  cases lessB (nmT a) (nmT b) with
  | true => rfl
  | false =>
    rw [cond_false]
    cases (nmT a == nmT b) <;> rfl
theorem c82 (p : List UInt8) (h : short p = true) : RetX (Γ mx) 82 [.s p] [] (.b (cleanV p)) [] := clean_ret p (by have := short_le h; omega)
theorem c55 (p : List UInt8) (h : short p = true) : RetX (Γ mx) 55 [.s p] [] (.b (cleanV p)) [] := refClean_ret none_ok p (by have := short_le h; omega)
theorem h54_ok : CallsOK (Γ mx) H54 := specs_ok (.cons (sp1_ok c82) .nil)
theorem i64_le (n : Nat) (k : Nat) : decide ((n : Int) ≤ (k : Int)) = decide (n ≤ k) := decide_eq_decide.2 (by omega)
theorem c54 (d : D) (h : shT d = true) : RetX (Γ mx) 54 [.d 80 d] [] (.b (goodT d)) [] := by
  obtain ⟨a, b, rfl, h1, h2⟩ := shT_ex h
  refine ret_goes (Γ := Γ mx) hP hZ h54_ok (by kernel_rfl) ⟨0, ?_⟩
  have e : goodT (.agg [.str a, .str b]) = (!(a == []) && decide (a.length ≤ 64) && decide (b.length ≤ 64) && (cleanV a && cleanV b)) := rfl
  rw [r54, e, show decide ((a.length : Int) ≤ 64) = decide (a.length ≤ 64) from i64_le _ 64, show decide ((b.length : Int) ≤ 64) = decide (b.length ≤ 64) from i64_le _ 64, h1, h2]
  cases (a == []) <;> cases decide (a.length ≤ 64) <;> cases decide (b.length ≤ 64) <;> cases cleanV a <;> rfl
/-! ### sound -/
theorem h26_ok : CallsOK (Γ mx) H26 := specs_ok (.cons (spD1_ok c54) .nil)
def lastO : List D → Option D
  | [] => none
  | d :: r => match lastO r with | some x => some x | none => some d
theorem lastO_app (p : List D) (x : D) : lastO (p ++ [x]) = some x := by
  induction p with
  | nil => rfl
  | cons d p ih => rw [List.cons_append, lastO, ih]
theorem lastO_nil {p : List D} (h : lastO p = none) : p = [] := by
  cases p with
  | nil => rfl
  | cons d p => rw [lastO] at h; split at h <;> exact absurd h (by simp)
theorem lastO_some {p : List D} {x : D} (h : lastO p = some x) : ∃ q, p = q ++ [x] := by
  induction p with
  | nil => exact absurd h (by simp [lastO])
  | cons d p ih =>
    rw [lastO] at h
    split at h
    · rename_i y hy
      cases h
      obtain ⟨q, rfl⟩ := ih hy
      exact ⟨d :: q, rfl⟩
    · rename_i hn
      cases h
      rw [lastO_nil hn]
      exact ⟨[], rfl⟩
theorem snd1_cons (o : Option D) (t : D) (r : List D) : snd1 o (t :: r) = (goodT t && ((match o with | none => true | some p => lessB (nmT p) (nmT t)) && snd1 (some t) r)) := by
  cases o with
  | none => rw [snd1]; simp
  | some p => rw [snd1, Bool.and_assoc]
theorem g26 (l : List D) (hl : l.length ≤ 8) (ha : l.all shT = true) : ∀ (rest pre : List D) (i : Int), l = pre ++ rest → i = (pre.length : Int) →
    Goes (Γ mx) H26 26 4 ⟨[(0, .sl 80 .any l), (8, .sl 80 .any l), (9, .i .i64 (l.length : Int)), (10, .i .i64 i)], []⟩ (.b (snd1 (lastO pre) rest), [])
  | [], pre, i, he, hi => by
    subst hi
    refine Goes.step ⟨0, ?_⟩
    rw [r26_4a, decide_eq_false (show ¬ (pre.length : Int) < (l.length : Int) by rw [he]; simp)]
    cases lastO pre <;> rfl
  | t :: r, pre, i, he, hi => by
    subst hi
    have hlen : l.length = pre.length + (r.length + 1) := by rw [he]; simp
    have hs : shT t = true := List.all_eq_true.1 ha t (by rw [he]; simp)
    obtain ⟨a, b, rfl, h1, h2⟩ := shT_ex hs
    have hid : ∀ {R : Type} (K : D → Option R), idx l (pre.length : Int) K = K (.agg [.str a, .str b]) := fun K => by rw [he]; exact idx_mid pre r _ K
    have hw : IntKind.wrap .i64 ((pre.length : Int) + 1) = (pre.length : Int) + 1 := wrapI (by omega) (by omega)
    obtain ⟨n, hn⟩ := g26 l hl ha r (pre ++ [.agg [.str a, .str b]]) ((pre.length : Int) + 1) (by rw [he]; simp) (by simp)
    rw [lastO_app] at hn
    rw [snd1_cons]
    refine Goes.step ⟨n, ?_⟩
    rw [r26_4a, decide_eq_true (show (pre.length : Int) < (l.length : Int) by omega), cond_true, hid]
    simp only [dAgg, lCons, dStr, lNil, hs, cond_true, hw]
    cases goodT (.agg [.str a, .str b]) with
    | false => rfl
    | true =>
      simp only [Bool.not_true, cond_false, Bool.true_and]
      cases hp : lastO pre with
      | none =>
        obtain rfl := lastO_nil hp
        exact hn
      | some p =>
        obtain ⟨q, rfl⟩ := lastO_some hp
        have hsp : shT p = true := List.all_eq_true.1 ha p (by rw [he]; simp)
        obtain ⟨a', b', rfl, _, _⟩ := shT_ex hsp
        have hw2 : IntKind.wrap .i64 (((q ++ [D.agg [.str a', .str b']]).length : Int) - 1) = (q.length : Int) := by rw [wrapI (by omega) (by simp at hlen ⊢; omega)]; simp
        have hid2 : ∀ {R : Type} (K : D → Option R), idx l (q.length : Int) K = K (.agg [.str a', .str b']) := fun K => by rw [he, List.append_assoc]; exact idx_mid q _ _ K
        rw [decide_eq_true (show (((q ++ [D.agg [.str a', .str b']]).length : Int)) > 0 by simp <;> omega), cond_true, hw2, hid2]
        simp only [lGet, List.getElem?_cons_zero]
        show (bif !lessB a' a then _ else _) = _
        have e : lessB (nmT (.agg [.str a', .str b'])) (nmT (.agg [.str a, .str b])) = lessB a' a := rfl
        simp only [e]
        cases lessB a' a with
        | false => rfl
        | true => simpa using hn
theorem c26 (l : List D) (h : tC l = true) : RetX (Γ mx) 26 [.sl 80 .any l] [] (.b (tsB l)) [] := by
  obtain ⟨h1, h2⟩ := tC_eq h
  by_cases h8 : l.length ≤ 8
  · obtain ⟨n, hn⟩ := g26 (mx := mx) l h8 h2 l [] 0 rfl rfl
    refine ret_goes (Γ := Γ mx) hP hZ h26_ok (by kernel_rfl) ⟨n, ?_⟩
    rw [r26, decide_eq_false (show ¬ (l.length : Int) > 8 by omega), tsB, decide_eq_true h8, Bool.true_and]; exact hn
  · refine ret_goes (Γ := Γ mx) hP hZ h26_ok (by kernel_rfl) ⟨0, ?_⟩
    rw [r26, decide_eq_true (show (l.length : Int) > 8 by omega), tsB, decide_eq_false h8]; rfl
theorem h27_ok : CallsOK (Γ mx) H27 := specs_ok (.cons (sp1_ok c55) .nil)
theorem le_less (a b : List UInt8) : (lessB a b || a == b) = !lessB b a := by
  cases h1 : lessB a b with
  | true => rw [lessB_asymm h1]; rfl
  | false =>
    cases h2 : lessB b a with
    | true =>
      have : (a == b) = false := beq_eq_false_iff_ne.2 fun e => by rw [e, lessB_irrefl] at h2; exact absurd h2 (by simp)
      rw [this]; rfl
    | false => rw [lessB_tri h1 h2]; simp
theorem i64_lt1 (a : List UInt8) : decide ((a.length : Int) < 1) = (a == []) := by
  cases a with
  | nil => rfl
  | cons c r => rw [decide_eq_false (by simp only [List.length_cons]; omega)]; rfl
theorem i64_gt (n k : Nat) : decide ((n : Int) > (k : Int)) = !decide (n ≤ k) := by
  by_cases h : n ≤ k
  · rw [decide_eq_true h, decide_eq_false (by omega)]; rfl
  · rw [decide_eq_false h, decide_eq_true (by omega)]; rfl
theorem g27 (l : List D) (hl : l.length ≤ 8) (ha : l.all shT = true) : ∀ (rest pre : List D) (i : Int), l = pre ++ rest → i = (pre.length : Int) →
    Goes (Γ mx) H27 27 4 ⟨[(0, .sl 80 .any l), (3, .i .i64 i)], []⟩ (.b (snd1 (lastO pre) rest), [])
  | [], pre, i, he, hi => by
    subst hi
    refine Goes.step ⟨0, ?_⟩
    rw [r27_4a, decide_eq_false (show ¬ (pre.length : Int) < (l.length : Int) by rw [he]; simp)]
    cases lastO pre <;> rfl
  | t :: r, pre, i, he, hi => by
    subst hi
    have hlen : l.length = pre.length + (r.length + 1) := by rw [he]; simp
    have hs : shT t = true := List.all_eq_true.1 ha t (by rw [he]; simp)
    obtain ⟨a, b, rfl, h1, h2⟩ := shT_ex hs
    have hid : ∀ {R : Type} (K : D → Option R), idx l (pre.length : Int) K = K (.agg [.str a, .str b]) := fun K => by rw [he]; exact idx_mid pre r _ K
    have hw : IntKind.wrap .i64 ((pre.length : Int) + 1) = (pre.length : Int) + 1 := wrapI (by omega) (by omega)
    obtain ⟨n, hn⟩ := g27 l hl ha r (pre ++ [.agg [.str a, .str b]]) ((pre.length : Int) + 1) (by rw [he]; simp) (by simp)
    rw [lastO_app] at hn
    have e : goodT (.agg [.str a, .str b]) = (!(a == []) && decide (a.length ≤ 64) && decide (b.length ≤ 64) && (cleanV a && cleanV b)) := rfl
    rw [snd1_cons, e]
    refine Goes.step ⟨n, ?_⟩
    rw [r27_4a, decide_eq_true (show (pre.length : Int) < (l.length : Int) by omega), cond_true]
    have g0 : ∀ {R : Type} (K : D → Option R), lGet [D.str a, D.str b] 0 K = K (.str a) := fun K => rfl
    have g1 : ∀ {R : Type} (K : D → Option R), lGet [D.str a, D.str b] 1 K = K (.str b) := fun K => rfl
    simp only [hid, dAgg, g0, g1, dStr, h1, h2, hw, cond_true, i64_lt1, show decide ((a.length : Int) > 64) = !decide (a.length ≤ 64) from i64_gt _ 64, show decide ((b.length : Int) > 64) = !decide (b.length ≤ 64) from i64_gt _ 64]
    cases (a == []) with
    | true => rfl
    | false =>
    cases decide (a.length ≤ 64) with
    | false => rfl
    | true =>
    cases decide (b.length ≤ 64) with
    | false => rfl
    | true =>
    cases cleanV a with
    | false => rfl
    | true =>
    cases cleanV b with
    | false => rfl
    | true =>
      simp only [Bool.not_true, Bool.not_false, cond_false, Bool.and_self, Bool.true_and]
      cases hp : lastO pre with
      | none =>
        obtain rfl := lastO_nil hp
        exact hn
      | some p =>
        obtain ⟨q, rfl⟩ := lastO_some hp
        have hsp : shT p = true := List.all_eq_true.1 ha p (by rw [he]; simp)
        obtain ⟨a', b', rfl, _, _⟩ := shT_ex hsp
        have hw2 : IntKind.wrap .i64 (((q ++ [D.agg [.str a', .str b']]).length : Int) - 1) = (q.length : Int) := by rw [wrapI (by omega) (by simp at hlen ⊢; omega)]; simp
        have hid2 : ∀ {R : Type} (K : D → Option R), idx l (q.length : Int) K = K (.agg [.str a', .str b']) := fun K => by rw [he, List.append_assoc]; exact idx_mid q _ _ K
        rw [decide_eq_true (show (((q ++ [D.agg [.str a', .str b']]).length : Int)) > 0 by simp <;> omega), cond_true, hw2, hid2]
        simp only [lGet, List.getElem?_cons_zero]
        show (bif lessB a a' || a == a' then _ else _) = _
        have e : lessB (nmT (.agg [.str a', .str b'])) (nmT (.agg [.str a, .str b])) = lessB a' a := rfl
        rw [le_less]
        simp only [e]
        cases lessB a' a with
        | false => rfl
        | true => simpa using hn
theorem c27 (l : List D) (h : tC l = true) : RetX (Γ mx) 27 [.sl 80 .any l] [] (.b (tsB l)) [] := by
  obtain ⟨h1, h2⟩ := tC_eq h
  by_cases h8 : l.length ≤ 8
  · obtain ⟨n, hn⟩ := g27 (mx := mx) l h8 h2 l [] 0 rfl rfl
    refine ret_goes (Γ := Γ mx) hP hZ h27_ok (by kernel_rfl) ⟨n, ?_⟩
    rw [r27, decide_eq_false (show ¬ (l.length : Int) > 8 by omega), tsB, decide_eq_true h8, Bool.true_and]; exact hn
  · refine ret_goes (Γ := Γ mx) hP hZ h27_ok (by kernel_rfl) ⟨0, ?_⟩
    rw [r27, decide_eq_true (show (l.length : Int) > 8 by omega), tsB, decide_eq_false h8]; rfl
/-! ### get, within -/
theorem g29 (l : List D) (s : List UInt8) (hl : l.length ≤ 8388608) (ha : l.all isT = true) : ∀ (rest pre : List D) (i : Int), l = pre ++ rest → i = (pre.length : Int) →
    Goes (Γ mx) (runS []) 29 2 ⟨[(1, .s s), (8, .sl 80 .any l), (9, .i .i64 (l.length : Int)), (10, .i .i64 i)], []⟩ (.tuple [.s (getS rest s), .b (getB rest s)], [])
  | [], pre, i, he, hi => by
    subst hi
    refine Goes.step ⟨0, ?_⟩
    rw [r29_2a, decide_eq_false (show ¬ (pre.length : Int) < (l.length : Int) by rw [he]; simp)]; rfl
  | t :: r, pre, i, he, hi => by
    subst hi
    have hlen : l.length = pre.length + (r.length + 1) := by rw [he]; simp
    obtain ⟨a, b, rfl⟩ := isT_ex (List.all_eq_true.1 ha t (by rw [he]; simp))
    have hid : ∀ {R : Type} (K : D → Option R), idx l (pre.length : Int) K = K (.agg [.str a, .str b]) := fun K => by rw [he]; exact idx_mid pre r _ K
    have hw : IntKind.wrap .i64 ((pre.length : Int) + 1) = (pre.length : Int) + 1 := wrapI (by omega) (by omega)
    obtain ⟨n, hn⟩ := g29 l s hl ha r (pre ++ [.agg [.str a, .str b]]) ((pre.length : Int) + 1) (by rw [he]; simp) (by simp)
    have e : getO (.agg [.str a, .str b] :: r) s = bif a == s then some (.agg [.str a, .str b]) else getO r s := by
      unfold getO
      rw [List.find?_cons, show eqN s (.agg [.str a, .str b]) = (a == s) from rfl]
      cases (a == s) <;> rfl
    have e1 : getS (.agg [.str a, .str b] :: r) s = bif a == s then b else getS r s := by
      unfold getS; rw [e]; cases (a == s) <;> rfl
    have e2 : getB (.agg [.str a, .str b] :: r) s = bif a == s then true else getB r s := by
      unfold getB; rw [e]; cases (a == s) <;> rfl
    refine Goes.step ⟨n, ?_⟩
    rw [r29_2a, decide_eq_true (show (pre.length : Int) < (l.length : Int) by omega), cond_true, hid, e1, e2]
    simp only [dAgg, lCons, dStr, lNil, hw]
    cases (a == s) with
    | true => rfl
    | false => exact hn
theorem c29 (l : List D) (s : List UInt8) (h : tC l = true) : RetX (Γ mx) 29 [.sl 80 .any l, .s s] [] (.tuple [.s (getS l s), .b (getB l s)]) [] := by
  obtain ⟨h1, h2⟩ := tC_eq h
  obtain ⟨n, hn⟩ := g29 (mx := mx) l s h1 (sh_all h2) l [] 0 rfl rfl
  exact ret_goes (Γ := Γ mx) hP hZ none_ok (by kernel_rfl) ⟨n, by rw [r29]; exact hn⟩
theorem h30_ok : CallsOK (Γ mx) H30 := specs_ok (.cons (spLS_ok c29) .nil)
theorem g30 (l m : List D) (hl : l.length ≤ 8388608) (ha : l.all isT = true) (hm : tC m = true) : ∀ (rest pre : List D) (i : Int), l = pre ++ rest → i = (pre.length : Int) →
    Goes (Γ mx) H30 30 2 ⟨[(1, .sl 80 .any m), (9, .sl 80 .any l), (10, .i .i64 (l.length : Int)), (11, .i .i64 i)], []⟩ (.b (withinB rest m), [])
  | [], pre, i, he, hi => by
    subst hi
    refine Goes.step ⟨0, ?_⟩
    rw [r30_2a, decide_eq_false (show ¬ (pre.length : Int) < (l.length : Int) by rw [he]; simp)]; rfl
  | t :: r, pre, i, he, hi => by
    subst hi
    have hlen : l.length = pre.length + (r.length + 1) := by rw [he]; simp
    obtain ⟨a, b, rfl⟩ := isT_ex (List.all_eq_true.1 ha t (by rw [he]; simp))
    have hid : ∀ {R : Type} (K : D → Option R), idx l (pre.length : Int) K = K (.agg [.str a, .str b]) := fun K => by rw [he]; exact idx_mid pre r _ K
    have hw : IntKind.wrap .i64 ((pre.length : Int) + 1) = (pre.length : Int) + 1 := wrapI (by omega) (by omega)
    obtain ⟨n, hn⟩ := g30 l m hl ha hm r (pre ++ [.agg [.str a, .str b]]) ((pre.length : Int) + 1) (by rw [he]; simp) (by simp)
    have e : withinB (.agg [.str a, .str b] :: r) m = ((getB m a && (getS m a == b)) && withinB r m) := rfl
    refine Goes.step ⟨n, ?_⟩
    rw [r30_2a, decide_eq_true (show (pre.length : Int) < (l.length : Int) by omega), cond_true, hid, e]
    simp only [dAgg, lCons, dStr, lNil, hw, hm, cond_true]
    cases getB m a with
    | false => rfl
    | true =>
      cases (getS m a == b) with
      | false => rfl
      | true => simpa using hn
theorem c30 (a b : List D) (h : (tC a && tC b) = true) : RetX (Γ mx) 30 [.sl 80 .any a, .sl 80 .any b] [] (.b (withinB a b)) [] := by
  simp only [Bool.and_eq_true] at h
  obtain ⟨h1, h2⟩ := tC_eq h.1
  obtain ⟨n, hn⟩ := g30 (mx := mx) a b h1 (sh_all h2) h.2 a [] 0 rfl rfl
  exact ret_goes (Γ := Γ mx) hP hZ h30_ok (by kernel_rfl) ⟨n, by rw [r30]; exact hn⟩
/-! ### same -/
theorem same_cons (a b a' b' : List UInt8) (r s : List D) : sameT (.agg [.str a, .str b] :: r) (.agg [.str a', .str b'] :: s) = ((a == a' && b == b') && sameT r s) := by
  show ((a, b) :: _ == (a', b') :: _) = _
  rfl
theorem same_self (l : List D) : sameT l l = true := by unfold sameT; exact beq_self_eq_true _
theorem same_len {a b : List D} (h : a.length ≠ b.length) : sameT a b = false := by
  unfold sameT
  refine beq_eq_false_iff_ne.2 fun e => h ?_
  have := congrArg List.length e
  simpa using this
theorem len_ne (a b : List D) : ((a.length : Int) != (b.length : Int)) = !decide (a.length = b.length) := by
  by_cases h : a.length = b.length
  · rw [h]; simp
  · rw [decide_eq_false h]; simp; omega
theorem g56 (l m : List D) (hl : l.length ≤ 8388608) (ha : l.all isT = true) (hb : m.all isT = true) : ∀ (rest rest' pre pre' : List D) (i : Int), l = pre ++ rest → m = pre' ++ rest' → rest.length = rest'.length → pre.length = pre'.length → i = (pre.length : Int) →
    Goes (Γ mx) (runS []) 56 4 ⟨[(0, .sl 80 .any l), (1, .sl 80 .any m), (12, .i .i64 (l.length : Int)), (13, .i .i64 i)], []⟩ (.b (sameT rest rest'), [])
  | [], [], pre, pre', i, he, he', hr, hp, hi => by
    subst hi
    refine Goes.step ⟨0, ?_⟩
    rw [r56_4a, decide_eq_false (show ¬ (pre.length : Int) < (l.length : Int) by rw [he]; simp)]; rfl
  | [], _ :: _, pre, pre', i, he, he', hr, hp, hi => by simp at hr
  | _ :: _, [], pre, pre', i, he, he', hr, hp, hi => by simp at hr
  | t :: r, t' :: r', pre, pre', i, he, he', hr, hp, hi => by
    subst hi
    have hlen : l.length = pre.length + (r.length + 1) := by rw [he]; simp
    obtain ⟨a, b, rfl⟩ := isT_ex (List.all_eq_true.1 ha t (by rw [he]; simp))
    obtain ⟨a', b', rfl⟩ := isT_ex (List.all_eq_true.1 hb t' (by rw [he']; simp))
    have hid : ∀ {R : Type} (K : D → Option R), idx l (pre.length : Int) K = K (.agg [.str a, .str b]) := fun K => by rw [he]; exact idx_mid pre r _ K
    have hid' : ∀ {R : Type} (K : D → Option R), idx m (pre.length : Int) K = K (.agg [.str a', .str b']) := fun K => by rw [he', hp]; exact idx_mid pre' r' _ K
    have hw : IntKind.wrap .i64 ((pre.length : Int) + 1) = (pre.length : Int) + 1 := wrapI (by omega) (by omega)
    obtain ⟨n, hn⟩ := g56 l m hl ha hb r r' (pre ++ [.agg [.str a, .str b]]) (pre' ++ [.agg [.str a', .str b']]) ((pre.length : Int) + 1) (by rw [he]; simp) (by rw [he']; simp) (by simpa using hr) (by simp [hp]) (by simp)
    refine Goes.step ⟨n, ?_⟩
    rw [r56_4a, decide_eq_true (show (pre.length : Int) < (l.length : Int) by omega), cond_true, hid, same_cons]
    simp only [dAgg, lCons, dStr, lNil, hw, hid']
    have e : eqD (.agg [.str a, .str b]) (.agg [.str a', .str b']) = (a == a' && (b == b' && true)) := rfl
    rw [e]
    cases (a == a') with
    | false => rfl
    | true =>
      cases (b == b') with
      | false => rfl
      | true => simpa using hn
theorem c56 (a b : List D) (h : (tC a && tC b) = true) : RetX (Γ mx) 56 [.sl 80 .any a, .sl 80 .any b] [] (.b (sameT a b)) [] := by
  simp only [Bool.and_eq_true] at h
  obtain ⟨h1, h2⟩ := tC_eq h.1
  obtain ⟨h3, h4⟩ := tC_eq h.2
  by_cases hl : a.length = b.length
  · obtain ⟨n, hn⟩ := g56 (mx := mx) a b h1 (sh_all h2) (sh_all h4) a b [] [] 0 rfl rfl hl rfl rfl
    exact ret_goes (Γ := Γ mx) hP hZ none_ok (by kernel_rfl) ⟨n, by rw [r56, len_ne, decide_eq_true hl]; exact hn⟩
  · exact ret_goes (Γ := Γ mx) hP hZ none_ok (by kernel_rfl) ⟨0, by rw [r56, len_ne, decide_eq_false hl, same_len hl]; rfl⟩
theorem h31_ok : CallsOK (Γ mx) H31 := specs_ok (.cons (spLL_ok c56) .nil)
theorem c31 (a b : List D) (h : (tC a && tC b) = true) : RetX (Γ mx) 31 [.sl 80 .any a, .sl 80 .any b] [] (.b (sameT a b)) [] :=
  ret_goes (Γ := Γ mx) hP hZ h31_ok (by kernel_rfl) ⟨0, by rw [r31, h]; rfl⟩
theorem g25 (l m : List D) (hl : l.length ≤ 8388608) (ha : l.all isT = true) (hb : m.all isT = true) : ∀ (rest rest' pre pre' : List D) (i : Int), l = pre ++ rest → m = pre' ++ rest' → rest.length = rest'.length → pre.length = pre'.length → i = (pre.length : Int) →
    Goes (Γ mx) (runS []) 25 4 ⟨[(0, .sl 80 .any l), (1, .sl 80 .any m), (5, .i .i64 i)], []⟩ (.b (sameT rest rest'), [])
  | [], [], pre, pre', i, he, he', hr, hp, hi => by
    subst hi
    refine Goes.step ⟨0, ?_⟩
    rw [r25_4a, decide_eq_false (show ¬ (pre.length : Int) < (l.length : Int) by rw [he]; simp)]; rfl
  | [], _ :: _, pre, pre', i, he, he', hr, hp, hi => by simp at hr
  | _ :: _, [], pre, pre', i, he, he', hr, hp, hi => by simp at hr
  | t :: r, t' :: r', pre, pre', i, he, he', hr, hp, hi => by
    subst hi
    have hlen : l.length = pre.length + (r.length + 1) := by rw [he]; simp
    obtain ⟨a, b, rfl⟩ := isT_ex (List.all_eq_true.1 ha t (by rw [he]; simp))
    obtain ⟨a', b', rfl⟩ := isT_ex (List.all_eq_true.1 hb t' (by rw [he']; simp))
    have hid : ∀ {R : Type} (K : D → Option R), idx l (pre.length : Int) K = K (.agg [.str a, .str b]) := fun K => by rw [he]; exact idx_mid pre r _ K
    have hid' : ∀ {R : Type} (K : D → Option R), idx m (pre.length : Int) K = K (.agg [.str a', .str b']) := fun K => by rw [he', hp]; exact idx_mid pre' r' _ K
    have hw : IntKind.wrap .i64 ((pre.length : Int) + 1) = (pre.length : Int) + 1 := wrapI (by omega) (by omega)
    obtain ⟨n, hn⟩ := g25 l m hl ha hb r r' (pre ++ [.agg [.str a, .str b]]) (pre' ++ [.agg [.str a', .str b']]) ((pre.length : Int) + 1) (by rw [he]; simp) (by rw [he']; simp) (by simpa using hr) (by simp [hp]) (by simp)
    have g0 : ∀ {R : Type} (x y : List UInt8) (K : D → Option R), lGet [D.str x, D.str y] 0 K = K (.str x) := fun x y K => rfl
    have g1 : ∀ {R : Type} (x y : List UInt8) (K : D → Option R), lGet [D.str x, D.str y] 1 K = K (.str y) := fun x y K => rfl
    refine Goes.step ⟨n, ?_⟩
    rw [r25_4a, decide_eq_true (show (pre.length : Int) < (l.length : Int) by omega), cond_true, same_cons]
    simp only [hid, hid', dAgg, g0, g1, dStr, hw]
    cases (a == a') with
    | false => rfl
    | true =>
      cases (b == b') with
      | false => rfl
      | true => simpa using hn
theorem c25 (a b : List D) (h : (tC a && tC b) = true) : RetX (Γ mx) 25 [.sl 80 .any a, .sl 80 .any b] [] (.b (sameT a b)) [] := by
  simp only [Bool.and_eq_true] at h
  obtain ⟨h1, h2⟩ := tC_eq h.1
  obtain ⟨h3, h4⟩ := tC_eq h.2
  by_cases hl : a.length = b.length
  · obtain ⟨n, hn⟩ := g25 (mx := mx) a b h1 (sh_all h2) (sh_all h4) a b [] [] 0 rfl rfl hl rfl rfl
    exact ret_goes (Γ := Γ mx) hP hZ none_ok (by kernel_rfl) ⟨n, by rw [r25, len_ne, decide_eq_true hl]; exact hn⟩
  · exact ret_goes (Γ := Γ mx) hP hZ none_ok (by kernel_rfl) ⟨0, by rw [r25, len_ne, decide_eq_false hl, same_len hl]; rfl⟩
end Go.Proofs.YtjbemleloffafaaDoor.V

/- Tags: contracts: sort, clone, clip, make, merge. -/
namespace Go.Proofs.YtjbemleloffafaaDoor.V
open Go
set_option maxRecDepth 100000
set_option linter.unusedVariables false
set_option linter.unusedSimpArgs false
section
variable {Γ : Ctx} {g : FuncId}
theorem RetX.ctx {R : List (FuncId × Nat)} {F O : List FuncId} {args : List AV} {obs obs' : Objs} {r : AV} (h : RetX Γ g args obs r obs') (hr : rootsOf R g = rootsOf Γ.roots g) : RetX { Γ with roots := R, refs := F, outs := O } g args obs r obs' := by
  intro w S σ X vals h0 h1 h2
  refine (h w S σ X vals (h0.trans hr) { h1 with glob := ⟨h1.glob.data, h1.glob.ifs⟩ } h2).mono ?_
  rintro v w' ⟨S', σ', hM, hk, hv⟩
  exact ⟨S', σ', { hM with glob := ⟨hM.glob.data, hM.glob.ifs⟩ }, hk, hv⟩
theorem RetX.unctx {R : List (FuncId × Nat)} {F O : List FuncId} {args : List AV} {obs obs' : Objs} {r : AV} (h : RetX { Γ with roots := R, refs := F, outs := O } g args obs r obs') (hr : rootsOf Γ.roots g = rootsOf R g) : RetX Γ g args obs r obs' := by
  intro w S σ X vals h0 h1 h2
  refine (h w S σ X vals (h0.trans hr) { h1 with glob := ⟨h1.glob.data, h1.glob.ifs⟩ } h2).mono ?_
  rintro v w' ⟨S', σ', hM, hk, hv⟩
  exact ⟨S', σ', { hM with glob := ⟨hM.glob.data, hM.glob.ifs⟩ }, hk, hv⟩
end
theorem onNil_eq {R : Type} {α : Type} {l : List α} {A B r : Option R} (h1 : l = [] → A = r) (h2 : l ≠ [] → B = r) : onNil l A B = r := by
  cases l with
  | nil => exact h1 rfl
  | cons a l => exact h2 (by simp)
theorem room32 {n : Nat} (h : n ≤ 100000000) : roomB n 32 = true := by
  unfold roomB
  simp only [Bool.and_eq_true, decide_eq_true_eq]
  exact ⟨rfl, by omega⟩
variable {mx : Int}
/-! ### sorting -/
theorem h105_ok : CallsOK (Γ mx) H105 := specs_ok (.cons (spDD_ok c52) .nil)
theorem mid0 {R : Type} (P Q : List D) (y x : D) (K : D → Option R) : lGet (P ++ y :: x :: Q) P.length K = K y := by unfold lGet; simp
theorem mid1 {R : Type} (P Q : List D) (y x : D) (K : D → Option R) : lGet (P ++ y :: x :: Q) (P.length + 1) K = K x := by unfold lGet; simp
theorem set1 (P Q : List D) (y x z : D) : (P ++ y :: x :: Q).set (P.length + 1) z = P ++ y :: z :: Q := by
  rw [List.set_append_right _ _ (by omega), show P.length + 1 - P.length = 1 by omega]; rfl
theorem set0 (P Q : List D) (y x z : D) : (P ++ y :: x :: Q).set P.length z = P ++ z :: x :: Q := by
  rw [List.set_append_right _ _ (by omega), Nat.sub_self]; rfl
theorem g105b {n : Int} {R : AV × Objs} {x : D} {rest : List D} {i : Int} (hx : isT x = true) (hi0 : 0 ≤ i) (hi : i ≤ 100) : ∀ (A B : List D), A.all isT = true → A.length + B.length + rest.length ≤ 100 →
    Goes (Γ mx) H105 105 1 ⟨[(0, .ref 80 0), (1, .i .i64 0), (2, .i .i64 n), (3, .fn 52 []), (8, .i .i64 (i + 1))], [some (.arr 80 (insR x A B ++ rest) false)]⟩ R →
    Goes (Γ mx) H105 105 4 ⟨[(0, .ref 80 0), (1, .i .i64 0), (2, .i .i64 n), (3, .fn 52 []), (8, .i .i64 i), (9, .i .i64 (A.length : Int))], [some (.arr 80 (A.reverse ++ x :: (B ++ rest)) false)]⟩ R
  | [], B, hA, hl, hg => by
    obtain ⟨k, hk⟩ := hg
    refine Goes.step ⟨k, ?_⟩
    rw [r105_4a, wrapI (n := i + 1) (by omega) (by omega)]
    show (bif decide ((0 : Int) > 0) then _ else _) = _
    rw [decide_eq_false (by omega), cond_false]
    exact hk
  | y :: A, B, hA, hl, hg => by
    have hA : isT y = true ∧ A.all isT = true := by simpa using hA
    simp only [List.length_cons] at hl
    obtain ⟨y1, y2, rfl⟩ := isT_ex hA.1
    obtain ⟨x1, x2, rfl⟩ := isT_ex hx
    have hk1 : ((D.agg [.str y1, .str y2] :: A).length : Int) = (A.reverse.length : Int) + 1 := by simp
    have e : (D.agg [.str y1, .str y2] :: A).reverse ++ D.agg [.str x1, .str x2] :: (B ++ rest) = A.reverse ++ D.agg [.str y1, .str y2] :: D.agg [.str x1, .str x2] :: (B ++ rest) := by simp
    have hlen : (A.reverse ++ D.agg [.str y1, .str y2] :: D.agg [.str x1, .str x2] :: (B ++ rest)).length = A.reverse.length + 2 + B.length + rest.length := by simp; omega
    have hw : IntKind.wrap .i64 ((A.reverse.length : Int) + 1 - 1) = (A.reverse.length : Int) := by rw [wrapI (by omega) (by simp; omega)]; omega
    have t1 : ((A.reverse.length : Int) + 1).toNat = A.reverse.length + 1 := by omega
    have t0 : ((A.reverse.length : Int)).toNat = A.reverse.length := by omega
    have d1 : decide ((A.reverse.length : Int) + 1 > 0) = true := decide_eq_true (by omega)
    have d2 : (decide ((0:Int) ≤ (A.reverse.length : Int) + 1) && decide ((A.reverse.length : Int) + 1 < ((A.reverse ++ D.agg [.str y1, .str y2] :: D.agg [.str x1, .str x2] :: (B ++ rest)).length : Int))) = true := by rw [decide_eq_true (by omega), decide_eq_true (by rw [hlen]; omega)]; rfl
    have d3 : (decide ((0:Int) ≤ (A.reverse.length : Int)) && decide ((A.reverse.length : Int) < ((A.reverse ++ D.agg [.str y1, .str y2] :: D.agg [.str x1, .str x2] :: (B ++ rest)).length : Int))) = true := by rw [decide_eq_true (by omega), decide_eq_true (by rw [hlen]; omega)]; rfl
    have d4 : (decide ((0:Int) ≤ (A.reverse.length : Int)) && decide ((A.reverse.length : Int) < ((A.reverse ++ D.agg [.str y1, .str y2] :: D.agg [.str y1, .str y2] :: (B ++ rest)).length : Int))) = true := by rw [decide_eq_true (by omega), decide_eq_true (by simp; omega)]; rfl
    have hit : (isT (D.agg [.str x1, .str x2]) && isT (D.agg [.str y1, .str y2])) = true := rfl
    rw [hk1, e]
    rw [insR] at hg
    cases hc : ltT (D.agg [.str x1, .str x2]) (D.agg [.str y1, .str y2]) with
    | false =>
      rw [hc] at hg
      obtain ⟨k, hk⟩ := hg
      refine Goes.step ⟨k, ?_⟩
      rw [r105_4a]
      simp only [d1, cond_true, d2, t1, mid1, hw, d3, t0, mid0, dAgg, lCons, dStr, lNil, hit, ord_lt, hc, cond_false, wrapI (n := i + 1) (by omega) (by omega)]
      simp only [cond_false, List.append_assoc, List.cons_append] at hk
      exact hk
    | true =>
      rw [hc] at hg
      obtain ⟨k, hk⟩ := g105b hx hi0 hi A (D.agg [.str y1, .str y2] :: B) hA.2 (by simp only [List.length_cons]; omega) hg
      refine Goes.step ⟨k, ?_⟩
      rw [r105_4a]
      simp only [d1, cond_true, d2, t1, mid1, hw, d3, t0, mid0, dAgg, lCons, dStr, lNil, hit, ord_lt, hc, set1, d4, set0]
      rw [List.length_reverse]
      exact hk
theorem g105 (n : Nat) (hn : n ≤ 8) : ∀ (rest S : List D), S ≠ [] → S.all isT = true → rest.all isT = true → Weak S → S.length + rest.length = n →
    Goes (Γ mx) H105 105 1 ⟨[(0, .ref 80 0), (1, .i .i64 0), (2, .i .i64 (n : Int)), (3, .fn 52 []), (8, .i .i64 (S.length : Int))], [some (.arr 80 (S ++ rest) false)]⟩ (.tuple [], [some (.arr 80 (srt S rest) false)])
  | [], S, hS, h1, h2, hw, hl => by
    refine Goes.step ⟨0, ?_⟩
    rw [r105_1a, decide_eq_false (by simp at hl; omega)]
    simp [srt]
  | x :: r, S, hS, h1, h2, hw, hl => by
    have h2 : isT x = true ∧ r.all isT = true := by simpa using h2
    simp only [List.length_cons] at hl
    have hp := insL_perm x S
    have hins : insR x S.reverse [] = insL x S := by
      have := insR_insL x S.reverse [] (by simpa using hw) (fun y hy => by cases hy)
      simpa using this
    have hlen := hp.length_eq
    simp only [List.length_cons] at hlen
    have ih := g105 n hn r (insL x S) (fun e => by rw [e] at hlen; simp at hlen) (List.all_eq_true.2 fun d hd => by
      rcases List.mem_cons.1 (hp.mem_iff.1 hd) with rfl | hd
      · exact h2.1
      · exact List.all_eq_true.1 h1 d hd) h2.2 (insL_weak hw) (by omega)
    rw [hlen] at ih
    have hb := g105b (mx := mx) (n := (n : Int)) (rest := r) (i := (S.length : Int)) h2.1 (by omega) (by omega) S.reverse [] (by simpa using h1) (by simp; omega) (R := (.tuple [], [some (.arr 80 (srt S (x :: r)) false)])) (by
      rw [hins]
      have : ((S.length : Int) + 1) = ((S.length + 1 : Nat) : Int) := by omega
      rw [this]
      exact ih)
    rw [List.length_reverse, List.reverse_reverse, List.nil_append] at hb
    obtain ⟨k, hk⟩ := hb
    refine Goes.step ⟨k, ?_⟩
    rw [r105_1a, decide_eq_true (by omega), cond_true]
    exact hk
theorem srtC_eq {l : List D} (h : srtC l = true) : l.length ≤ 8 ∧ l.all isT = true := by simpa [srtC] using h
theorem srt_len (l : List D) : (srt [] l).length = l.length := by have := (srt_perm l []).length_eq; simpa using this
theorem c105 (l : List D) (h : srtC l = true) : RetX (Γ mx) 105 [.ref 80 0, .i .i64 0, .i .i64 (l.length : Int), .fn 52 []] [some (.arr 80 l false)] (.tuple []) [some (.arr 80 (srt [] l) false)] := by
  obtain ⟨h1, h2⟩ := srtC_eq h
  cases l with
  | nil =>
    refine ret_goes (Γ := Γ mx) hP hZ h105_ok (by kernel_rfl) ?_
    obtain ⟨k, hk⟩ : Goes (Γ mx) H105 105 1 ⟨[(0, .ref 80 0), (1, .i .i64 0), (2, .i .i64 0), (3, .fn 52 []), (8, .i .i64 1)], [some (.arr 80 [] false)]⟩ (.tuple [], [some (.arr 80 [] false)]) := Goes.step ⟨0, by rw [r105_1a]; rfl⟩
    exact ⟨k, by rw [r105]; exact hk⟩
  | cons x r =>
    have h2 : isT x = true ∧ r.all isT = true := by simpa using h2
    obtain ⟨k, hk⟩ := g105 (mx := mx) (r.length + 1) h1 r [x] (by simp) (by simpa using h2.1) h2.2 (List.pairwise_singleton ..) (by simp; omega)
    refine ret_goes (Γ := Γ mx) hP hZ h105_ok (by kernel_rfl) ⟨k, ?_⟩
    rw [r105]
    exact hk
theorem xIns_ok : SpecOK (Γ mx) ⟨105, xIns⟩ := by
  intro args obs r obs' hr
  change xIns args obs = some (true, r, obs') at hr
  unfold xIns at hr
  split at hr
  · simp only [Option.some.injEq, Prod.mk.injEq, Bool.and_eq_true, beq_iff_eq] at hr
    obtain ⟨⟨h1, h2, h3, h4, h5, h6⟩, rfl, rfl⟩ := hr
    obtain rfl := beq_id h1
    obtain rfl := beq_id h2
    obtain rfl := beq_id h3
    subst h4 h5
    exact c105 _ h6
  · exact absurd hr (by simp)
theorem h79_ok : CallsOK (Γ mx) H79 := specs_ok (.cons xIns_ok .nil)
theorem c79 (l : List D) (m : Int) (h : srtC l = true) : RetX (Γ mx) 79 [.ref 80 0, .i .i64 0, .i .i64 (l.length : Int), .i .i64 m, .fn 52 []] [some (.arr 80 l false)] (.tuple []) [some (.arr 80 (srt [] l) false)] := by
  obtain ⟨h1, h2⟩ := srtC_eq h
  have hb : (Nat.beq l.length (srt [] l).length && true) = true := by rw [srt_len]; simp
  obtain ⟨k, hk⟩ : Goes (Γ mx) H79 79 2 ⟨[(0, .ref 80 0), (1, .i .i64 0), (2, .i .i64 (l.length : Int)), (3, .i .i64 m), (4, .fn 52 []), (10, .b true), (11, .b true)], [some (.arr 80 l false)]⟩ (.tuple [], [some (.arr 80 (srt [] l) false)]) := by
    refine Goes.step ⟨0, ?_⟩
    have hc : ∀ n : Nat, n = l.length → ((Nat.beq l.length (srt [] l).length && true) && ((0 : Int) == 0 && ((n : Int) == (l.length : Int) && srtC l))) = true := fun n e => by rw [hb, h, e]; simp
    rcases Nat.lt_or_ge l.length 1 with h0 | h0
    · have e : l.length = 0 := by omega
      have h00 := hc 0 e.symm
      rw [show ((0 : Nat) : Int) = 0 from rfl] at h00
      rw [e, show ((0 : Nat) : Int) = 0 from rfl, r79_0, h00]; rfl
    rcases Nat.lt_or_ge l.length 2 with h0 | h0
    · have e : l.length = 1 := by omega
      rw [e, show ((1 : Nat) : Int) = 1 from rfl, r79_1, show (1 : Int) = ((1 : Nat) : Int) from rfl, hc 1 e.symm]; rfl
    rcases Nat.lt_or_ge l.length 3 with h0 | h0
    · have e : l.length = 2 := by omega
      rw [e, show ((2 : Nat) : Int) = 2 from rfl, r79_2, show (2 : Int) = ((2 : Nat) : Int) from rfl, hc 2 e.symm]; rfl
    rcases Nat.lt_or_ge l.length 4 with h0 | h0
    · have e : l.length = 3 := by omega
      rw [e, show ((3 : Nat) : Int) = 3 from rfl, r79_3, show (3 : Int) = ((3 : Nat) : Int) from rfl, hc 3 e.symm]; rfl
    rcases Nat.lt_or_ge l.length 5 with h0 | h0
    · have e : l.length = 4 := by omega
      rw [e, show ((4 : Nat) : Int) = 4 from rfl, r79_4, show (4 : Int) = ((4 : Nat) : Int) from rfl, hc 4 e.symm]; rfl
    rcases Nat.lt_or_ge l.length 6 with h0 | h0
    · have e : l.length = 5 := by omega
      rw [e, show ((5 : Nat) : Int) = 5 from rfl, r79_5, show (5 : Int) = ((5 : Nat) : Int) from rfl, hc 5 e.symm]; rfl
    rcases Nat.lt_or_ge l.length 7 with h0 | h0
    · have e : l.length = 6 := by omega
      rw [e, show ((6 : Nat) : Int) = 6 from rfl, r79_6, show (6 : Int) = ((6 : Nat) : Int) from rfl, hc 6 e.symm]; rfl
    rcases Nat.lt_or_ge l.length 8 with h0 | h0
    · have e : l.length = 7 := by omega
      rw [e, show ((7 : Nat) : Int) = 7 from rfl, r79_7, show (7 : Int) = ((7 : Nat) : Int) from rfl, hc 7 e.symm]; rfl
    · have e : l.length = 8 := by omega
      rw [e, show ((8 : Nat) : Int) = 8 from rfl, r79_8, show (8 : Int) = ((8 : Nat) : Int) from rfl, hc 8 e.symm]; rfl
  exact ret_goes (Γ := Γ mx) hP hZ h79_ok (by kernel_rfl) ⟨k, by rw [r79]; exact hk⟩
theorem xPdq_ok : SpecOK (Γ mx) ⟨79, xPdq⟩ := by
  intro args obs r obs' hr
  change xPdq args obs = some (true, r, obs') at hr
  unfold xPdq at hr
  split at hr
  · simp only [Option.some.injEq, Prod.mk.injEq, Bool.and_eq_true, beq_iff_eq] at hr
    obtain ⟨⟨h1, h2, h3, h4, h5, h6⟩, rfl, rfl⟩ := hr
    obtain rfl := beq_id h1
    obtain rfl := beq_id h2
    obtain rfl := beq_id h3
    subst h4 h5
    exact c79 _ _ h6
  · exact absurd hr (by simp)
theorem c80 (n : Int) (h : lenC n = true) : RetX (Γ mx) 80 [.i .u64 n] [] (.i .i64 (blen n)) [] := by
  have h : 0 ≤ n ∧ n ≤ 8 := by simpa [lenC] using h
  have : n = 0 ∨ n = 1 ∨ n = 2 ∨ n = 3 ∨ n = 4 ∨ n = 5 ∨ n = 6 ∨ n = 7 ∨ n = 8 := by omega
  rcases this with rfl | rfl | rfl | rfl | rfl | rfl | rfl | rfl | rfl <;>
    exact ret_run (Γ := Γ mx) (ext := runS []) (n := 9) hP hZ hN none_ok (by kernel_rfl)
theorem spLen_ok : SpecOK (Γ mx) ⟨80, dat spLen⟩ := dat_ok fun args r hr => by
  unfold spLen at hr
  split at hr
  · simp only [Option.some.injEq, Prod.mk.injEq] at hr
    obtain ⟨h1, rfl⟩ := hr
    exact c80 _ h1
  · exact absurd hr (by simp)
theorem h51_ok : CallsOK (Γ mx) H51 := specs_ok (.cons spLen_ok (.cons xPdq_ok .nil))
theorem c51 (l : List D) (h : srtC l = true) : RetX (Γ mx) 51 [.ref 80 0, .fn 52 []] [some (.arr 80 l false)] (.tuple []) [some (.arr 80 (srt [] l) false)] := by
  obtain ⟨h1, h2⟩ := srtC_eq h
  refine ret_goes (Γ := Γ mx) hP hZ h51_ok (by kernel_rfl) ⟨0, ?_⟩
  have hw : IntKind.wrap .u64 (l.length : Int) = (l.length : Int) := by rw [IntKind.wrap_u64]; omega
  have hl : lenC (l.length : Int) = true := by unfold lenC; rw [decide_eq_true (by omega), decide_eq_true (by omega)]; rfl
  rw [r51, hw, hl, h, srt_len]
  simp
theorem xSort_ok : SpecOK (Γ mx) ⟨51, xSort⟩ := by
  intro args obs r obs' hr
  change xSort args obs = some (true, r, obs') at hr
  unfold xSort at hr
  split at hr
  · simp only [Option.some.injEq, Prod.mk.injEq, Bool.and_eq_true] at hr
    obtain ⟨⟨h1, h2, h3, h4⟩, rfl, rfl⟩ := hr
    obtain rfl := beq_id h1
    obtain rfl := beq_id h2
    obtain rfl := beq_id h3
    exact c51 _ h4
  · exact absurd hr (by simp)
/-! ### clone, clip -/
theorem c50n : RetX (Γ mx) 50 [.sl 80 .any []] [] (.sl 80 .cl []) [] := by
  have h1 : RetX (Γ mx) 50 [.sl 80 .nl []] [] .snil [] := ret_goes (Γ := Γ mx) hP hZ none_ok (by kernel_rfl) ⟨0, by rw [nlr50]⟩
  have h2 : RetX (Γ mx) 50 [.sl 80 .nn []] [] (.sl 80 .ex []) [] := ret_goes (Γ := Γ mx) hP hZ none_ok (by kernel_rfl) ⟨0, by rw [nnr50]⟩
  have h1 : RetX (Γ mx) 50 [.sl 80 .nl []] [] (.sl 80 .cl []) [] := h1.to fun w S σ v h => by
    simp only [RepA] at h ⊢
    exact ⟨none, 0, h, ⟨rfl, fun _ => rfl⟩, .inl trivial⟩
  have h2 : RetX (Γ mx) 50 [.sl 80 .nn []] [] (.sl 80 .cl []) [] := h2.to fun w S σ v h => by
    simp only [RepA] at h ⊢
    obtain ⟨a, cap, e, hc, _⟩ := h
    simp only [CapOK] at hc
    exact ⟨a, cap, e, ⟨hc.2, fun hn => by rw [hn] at hc; simp at hc⟩, .inl trivial⟩
  intro w S σ X vals hX hM ha
  simp only [RepAs, RepA] at ha
  obtain ⟨v, _, rfl, ⟨a, cap, rfl, hc, h0⟩, rfl⟩ := ha
  simp only [CapOK] at hc
  cases a with
  | none => exact h1 w S σ X _ hX hM (by simp only [RepAs, RepA]; exact ⟨_, _, rfl, ⟨none, cap, rfl, ⟨rfl, rfl, hc.2 rfl⟩, .inl trivial⟩, rfl⟩)
  | some a => exact h2 w S σ X _ hX hM (by simp only [RepAs, RepA]; exact ⟨_, _, rfl, ⟨some a, cap, rfl, ⟨hc.1, rfl⟩, .inl trivial⟩, rfl⟩)
theorem c50c (x : D) (r : List D) (h : tC (x :: r) = true) : RetX (Γ mx) 50 [.sl 80 .any (x :: r)] [] (.ref 80 0) [some (.arr 80 (x :: r) false)] := by
  obtain ⟨h1, h2⟩ := tC_eq h
  exact ret_goes (Γ := Γ mx) hP hZ none_ok (by kernel_rfl) ⟨0, by rw [r50, room32 (by omega)]; rfl⟩
theorem xClone_ok : SpecOK (Γ mx) ⟨50, xClone⟩ := by
  intro args obs r obs' hr
  change xClone args obs = some (true, r, obs') at hr
  unfold xClone at hr
  split at hr
  · simp only [Option.some.injEq, Prod.mk.injEq] at hr
    obtain ⟨h1, rfl, rfl⟩ := hr
    obtain rfl := beq_id h1
    exact c50n.anyc
  · simp only [Option.some.injEq, Prod.mk.injEq, Bool.and_eq_true] at hr
    obtain ⟨⟨h1, h2⟩, rfl, rfl⟩ := hr
    obtain rfl := beq_id h1
    exact (c50c _ _ h2).anyc
  · exact absurd hr (by simp)
theorem c53 (l : List D) (_ : true = true) : RetX (Γ mx) 53 [.sl 80 .any l] [] (.sl 80 .cl l) [] := by
  refine ret_goes (Γ := Γ mx) hP hZ none_ok (by kernel_rfl) ⟨0, ?_⟩
  rw [r53]
  simp
end Go.Proofs.YtjbemleloffafaaDoor.V

/- Tags: contracts: make, merge. -/
namespace Go.Proofs.YtjbemleloffafaaDoor.V
open Go
set_option maxRecDepth 100000
set_option linter.unusedVariables false
set_option linter.unusedSimpArgs false
variable {mx : Int}
theorem wk_pair {P : Program} (c : Cp) (l : List D) (a : AV) : WkA P (.tuple [.sl 80 c l, a]) (.tuple [.sl 80 .any l, a]) := WkA.tuple (.cons (WkA.sl _ _ _) (.cons (WkA.refl _) .nil))
theorem wk_nil {P : Program} (a : AV) : WkA P (.tuple [.snil, a]) (.tuple [.sl 80 .any [], a]) := WkA.tuple (.cons (WkA.nil _) (.cons (WkA.refl _) .nil))
theorem tC_of {l : List D} (h1 : l.length ≤ 8388608) (h2 : l.all shT = true) : tC l = true := by unfold tC; rw [decide_eq_true h1, h2]; rfl
theorem sh_srt {l : List D} (h : l.all shT = true) : (srt [] l).all shT = true := List.all_eq_true.2 fun d hd => List.all_eq_true.1 h d (by
  have := (srt_perm l []).mem_iff.1 hd
  simpa using this)
theorem tC_srt {l : List D} (h : tC l = true) : tC (srt [] l) = true := by
  obtain ⟨h1, h2⟩ := tC_eq h
  exact tC_of (by rw [srt_len]; exact h1) (sh_srt h2)
theorem h22_ok : CallsOK (Γ mx) H22 := specs_ok (.cons xClone_ok (.cons xSort_ok (.cons (spL1s_ok c26) (.cons (spL1_ok c53) .nil))))
def mkR (s : List D) (dup : Bool) : AV := bif dup then .tuple [.snil, .i .i64 8] else bif tsB s then .tuple [.sl 80 .cl s, .i .i64 0] else .tuple [.snil, .i .i64 2]
theorem g22 (l : List D) (hl : l.length ≤ 8) (ht : tC l = true) : ∀ (rest pre : List D) (p : D) (i : Int), l = pre ++ p :: rest → i = (pre.length : Int) + 1 →
    Goes (Γ mx) H22 22 6 ⟨[(4, .ref 80 0), (5, .i .i64 i)], [some (.arr 80 l false)]⟩ (mkR l (adjE (p :: rest)), [])
  | [], pre, p, i, he, hi => by
    subst hi
    refine Goes.step ⟨0, ?_⟩
    have e : mkR l (adjE [p]) = bif tsB l then .tuple [.sl 80 .cl l, .i .i64 0] else .tuple [.snil, .i .i64 2] := rfl
    rw [r22_6a, decide_eq_false (show ¬ (pre.length : Int) + 1 < (l.length : Int) by rw [he]; simp), ht, e]
    cases tsB l <;> rfl
  | t :: r, pre, p, i, he, hi => by
    subst hi
    have hlen : l.length = pre.length + (r.length + 2) := by rw [he]; simp
    have hall := sh_all (tC_eq ht).2
    obtain ⟨a, b, rfl⟩ := isT_ex (List.all_eq_true.1 hall p (by rw [he]; simp))
    obtain ⟨a', b', rfl⟩ := isT_ex (List.all_eq_true.1 hall t (by rw [he]; simp))
    have hw : IntKind.wrap .i64 ((pre.length : Int) + 1 - 1) = (pre.length : Int) := by rw [wrapI (by omega) (by omega)]; omega
    have hw1 : IntKind.wrap .i64 ((pre.length : Int) + 1 + 1) = (pre.length : Int) + 1 + 1 := wrapI (by omega) (by omega)
    have t1 : ((pre.length : Int) + 1).toNat = pre.length + 1 := by omega
    have t0 : ((pre.length : Int)).toNat = pre.length := by omega
    obtain ⟨n, hn⟩ := g22 l hl ht r (pre ++ [.agg [.str a, .str b]]) (.agg [.str a', .str b']) ((pre.length : Int) + 1 + 1) (by rw [he]; simp) (by simp)
    have l1 : ∀ {R : Type} (K : D → Option R), lGet l (pre.length + 1) K = K (.agg [.str a', .str b']) := fun K => by rw [he]; exact mid1 _ _ _ _ _
    have l0 : ∀ {R : Type} (K : D → Option R), lGet l pre.length K = K (.agg [.str a, .str b]) := fun K => by rw [he]; exact mid0 _ _ _ _ _
    have d1 : (decide ((0:Int) ≤ (pre.length : Int) + 1) && decide ((pre.length : Int) + 1 < (l.length : Int))) = true := by rw [decide_eq_true (by omega), decide_eq_true (by omega)]; rfl
    have d0 : (decide ((0:Int) ≤ (pre.length : Int)) && decide ((pre.length : Int) < (l.length : Int))) = true := by rw [decide_eq_true (by omega), decide_eq_true (by omega)]; rfl
    have e : adjE (.agg [.str a, .str b] :: .agg [.str a', .str b'] :: r) = ((a' == a) || adjE (.agg [.str a', .str b'] :: r)) := rfl
    have g0 : ∀ {R : Type} (x y : List UInt8) (K : D → Option R), lGet [D.str x, D.str y] 0 K = K (.str x) := fun x y K => rfl
    refine Goes.step ⟨n, ?_⟩
    rw [r22_6a, decide_eq_true (show (pre.length : Int) + 1 < (l.length : Int) by omega), cond_true, e]
    simp only [d1, d0, cond_true, t1, t0, l1, l0, hw, hw1, dAgg, g0, dStr]
    cases (a' == a) with
    | true => rfl
    | false => exact hn
theorem mk_val (l : List D) (h8 : l.length ≤ 8) : ∀ {w : World} {S : Addr → Prop} {σ : Loc} {v : Value}, RepA (Γ mx).P w S σ [] (mkR (srt [] l) (adjE (srt [] l))) v → RepA (Γ mx).P w S σ [] (.tuple [.sl 80 .any (mkL l), .i .i64 (mkE l)]) v := by
  intro w S σ v h
  unfold mkR at h
  unfold mkL mkE
  rw [decide_eq_false (by omega), cond_false]
  cases hd : adjE (srt [] l) with
  | true => rw [hd] at h; exact wk_nil _ _ _ _ _ _ h
  | false =>
    rw [hd, cond_false] at h
    rw [cond_false]
    cases ht : tsB (srt [] l) with
    | true => rw [ht] at h; exact wk_pair _ _ _ _ _ _ _ _ h
    | false => rw [ht] at h; exact wk_nil _ _ _ _ _ _ h
theorem mk_big {l : List D} (h : ¬ l.length ≤ 8) : mkE l = 9 ∧ mkL l = [] := by
  have h1 : mkE l = 9 := by unfold mkE; rw [decide_eq_true (by omega)]; rfl
  exact ⟨h1, by unfold mkL; rw [h1]; rfl⟩
noncomputable def Γ0 (mx : Int) : Ctx := { Γ mx with roots := [], refs := [], outs := [] }
def Hn0 : Handle := runS [⟨50, xClone⟩, ⟨26, dat (spL1s 80 tC fun l => .b (tsB l))⟩]
theorem spec_ctx {s : Spec} (hr : rootsOf [] s.g = rootsOf (Γ mx).roots s.g) (h : SpecOK (Γ mx) s) : SpecOK (Γ0 mx) s := fun args obs r obs' hh => (h args obs r obs' hh).ctx hr
theorem hn0_ok : CallsOK (Γ0 mx) Hn0 := specs_ok (.cons (spec_ctx (by kernel_rfl) xClone_ok) (.cons (spec_ctx (by kernel_rfl) (spL1s_ok c26)) .nil))
theorem c22n : RetX (Γ mx) 22 [.sl 80 .any []] [] (.tuple [.sl 80 .any (mkL []), .i .i64 (mkE [])]) [] := by
  have h : RetX (Γ0 mx) 22 [.sl 80 .any []] [] (.tuple [.sl 80 .cl [], .i .i64 0]) [] := ret_run (Γ := Γ0 mx) (ext := Hn0) (n := 20) (hP (mx := mx)) (hZ (mx := mx)) (hN (mx := mx)) hn0_ok (by kernel_rfl)
  exact (h.unctx (by kernel_rfl)).wk (wk_pair _ _ _)
theorem c22 (l : List D) (h : tC l = true) : RetX (Γ mx) 22 [.sl 80 .any l] [] (.tuple [.sl 80 .any (mkL l), .i .i64 (mkE l)]) [] := by
  cases l with
  | nil => exact c22n
  | cons x r =>
    by_cases h8 : (x :: r).length ≤ 8
    · have hs : srtC (x :: r) = true := by unfold srtC; rw [decide_eq_true h8, sh_all (tC_eq h).2]; rfl
      have hl := srt_len (x :: r)
      obtain ⟨p, q, hpq⟩ : ∃ p q, srt [] (x :: r) = p :: q := by
        cases hs : srt [] (x :: r) with
        | nil => rw [hs] at hl; simp at hl
        | cons p q => exact ⟨p, q, rfl⟩
      obtain ⟨n, hn⟩ := g22 (mx := mx) (srt [] (x :: r)) (by omega) (tC_srt h) q [] p 1 hpq rfl
      rw [← hpq] at hn
      refine RetX.to (ret_goes (Γ := Γ mx) (f := 22) (args := [.sl 80 .any (x :: r)]) (obs := []) hP hZ h22_ok (by kernel_rfl) ⟨n, ?_⟩) fun w S σ v hv => mk_val (x :: r) h8 hv
      rw [r22, decide_eq_false (show ¬ ((x :: r).length : Int) > 8 by omega), h, hs, hl]
      simpa using hn
    · obtain ⟨e1, e2⟩ := mk_big h8
      rw [e1, e2]
      refine RetX.wk (ret_goes (Γ := Γ mx) (f := 22) (args := [.sl 80 .any (x :: r)]) (obs := []) hP hZ h22_ok (by kernel_rfl) ⟨0, ?_⟩) (wk_nil _)
      rw [r22, decide_eq_true (show ((x :: r).length : Int) > 8 by omega)]; rfl
/-! ### the document's Make -/
def ltx (x y : D) : Bool := ltT y x
def atF (x : D) : List D → Nat → Nat → Nat
  | [], _, k => k
  | y :: r, i, k => atF x r (i + 1) (bif ltx x y then i + 1 else k)
theorem atF_hi {x : D} : ∀ {Q : List D} {i k : Nat}, (∀ y ∈ Q, ltx x y = false) → atF x Q i k = k
  | [], _, _, _ => rfl
  | y :: r, i, k, h => by rw [atF, h y (by simp), cond_false]; exact atF_hi fun z hz => h z (by simp [hz])
theorem atF_take {x : D} : ∀ {Q : List D} {i : Nat}, Strict Q → atF x Q i i = i + (Q.takeWhile (ltx x)).length
  | [], i, _ => rfl
  | y :: r, i, h => by
    have hc := List.pairwise_cons.1 h
    rw [atF]
    cases hy : ltx x y with
    | true =>
      rw [cond_true, atF_take hc.2, List.takeWhile_cons, hy]
      simp; omega
    | false =>
      rw [cond_false, List.takeWhile_cons, hy]
      have : ∀ z ∈ r, ltx x z = false := fun z hz => by
        cases hz' : ltx x z with
        | false => rfl
        | true =>
          have := lessB_trans (hc.1 z hz) hz'
          unfold ltx ltT at hy
          rw [this] at hy; exact absurd hy (by simp)
      rw [atF_hi this]; simp
theorem ins_take {x : D} : ∀ {Q : List D}, Strict Q → Q.any (eqN (nmT x)) = false → insL x Q = Q.takeWhile (ltx x) ++ x :: Q.dropWhile (ltx x)
  | [], _, _ => rfl
  | y :: r, h, hn => by
    have hc := List.pairwise_cons.1 h
    rw [List.any_cons, Bool.or_eq_false_iff] at hn
    rw [insL, List.takeWhile_cons, List.dropWhile_cons]
    cases hy : ltx x y with
    | true =>
      have : ltT x y = false := lessB_asymm hy
      rw [this, cond_false, ins_take hc.2 hn.2]; rfl
    | false =>
      have hlt : ltT x y = true := by
        cases hl : ltT x y with
        | true => rfl
        | false =>
          have := lessB_tri (a := nmT x) (b := nmT y) hl hy
          have h1 := hn.1
          unfold eqN at h1
          rw [this] at h1; simp at h1
      rw [hlt]; rfl
theorem tw_take (p : D → Bool) : ∀ Q : List D, Q.take (Q.takeWhile p).length = Q.takeWhile p ∧ Q.drop (Q.takeWhile p).length = Q.dropWhile p
  | [] => ⟨rfl, rfl⟩
  | y :: r => by
    rw [List.takeWhile_cons, List.dropWhile_cons]
    cases p y with
    | true => simp [tw_take p r]
    | false => simp
theorem ins_strict {x : D} {Q : List D} (h : Strict Q) (hn : Q.any (eqN (nmT x)) = false) : Strict (insL x Q) := by
  refine adj_strict (insL_weak (h.imp fun {a b} hab => lessB_asymm hab)) ((weak_adj (insL_weak (h.imp fun {a b} hab => lessB_asymm hab))).2 ?_)
  rw [nd_perm (insL_perm x Q)]
  unfold Nd
  rw [List.map_cons, List.nodup_cons]
  exact ⟨fun hm => by rw [any_eqN.2 hm] at hn; exact absurd hn (by simp), strict_nd h⟩
theorem h23_ok : CallsOK (Γ mx) H23 := specs_ok (.cons (spL1s_ok c27) .nil)
def rmR (out rest : List D) : AV := bif dupG out rest then .tuple [.snil, .i .i64 8] else bif tsB (srt out rest) then .tuple [.sl 80 .any (srt out rest), .i .i64 0] else .tuple [.snil, .i .i64 2]
theorem dup_mem {out : List D} {x : D} {r : List D} (h : out.any (eqN (nmT x)) = true) : dupG out (x :: r) = true := by rw [dupG, h]; rfl
theorem dup_step {out : List D} {x : D} {r : List D} (h : out.any (eqN (nmT x)) = false) : rmR out (x :: r) = rmR (insL x out) r := by unfold rmR; rw [dupG, h, Bool.false_or, srt]
/-- the row that has one more -/
theorem put_row (out : List D) (x : D) (h : Strict out) (hn : out.any (eqN (nmT x)) = false) : out.take (atF x out 0 0) ++ x :: out.drop (atF x out 0 0) = insL x out := by
  rw [atF_take h, Nat.zero_add, (tw_take _ _).1, (tw_take _ _).2, ins_take h hn]
theorem atF_le {x : D} : ∀ {Q : List D} {i k : Nat}, k ≤ i → atF x Q i k ≤ i + Q.length
  | [], i, k, h => by simpa [atF] using h
  | y :: r, i, k, h => by
    rw [atF]
    have := atF_le (x := x) (Q := r) (i := i + 1) (k := bif ltx x y then i + 1 else k) (by cases ltx x y <;> simp <;> omega)
    simp; omega
theorem take_drop_len (l : List D) (k : Nat) : List.take (l.length - k) (List.drop k l) = List.drop k l := List.take_of_length_le (by simp)
theorem g23i (l : List D) (hl : l.length ≤ 8) (hs : l.all shT = true) (r : List D) (x : D) (pre out : List D) (he : l = pre ++ x :: r) (hst : Strict out) (ho : out.all shT = true) (hlen : out.length = pre.length)
    (hnext : out.any (eqN (nmT x)) = false → Goes (Γ mx) H23 23 5 ⟨[(0, .sl 80 .any l), (4, .ref 80 0), (5, .i .i64 ((pre.length : Int) + 1))], [some (.arr 80 (insL x out) false)]⟩ (rmR (insL x out) r, [])) :
    ∀ (Q P : List D) (k : Nat), out = P ++ Q → P.any (eqN (nmT x)) = false → k ≤ P.length → atF x out 0 0 = atF x Q P.length k →
    Goes (Γ mx) H23 23 9 ⟨[(0, .sl 80 .any l), (4, .ref 80 0), (5, .i .i64 (pre.length : Int)), (6, .i .i64 (k : Int)), (7, .i .i64 (P.length : Int))], [some (.arr 80 out false)]⟩ (rmR out (x :: r), [])
  | [], P, k, hPQ, hP, hk, hat => by
    rw [List.append_nil] at hPQ
    subst hPQ
    have hpl : l.length = pre.length + (r.length + 1) := by rw [he]; simp
    have hat : atF x out 0 0 = k := hat
    have hput := put_row out x hst hP
    rw [hat] at hput
    obtain ⟨a, b, rfl⟩ := isT_ex (sh_all hs |> fun h => List.all_eq_true.1 h x (by rw [he]; simp))
    have hid : ∀ {R : Type} (K : D → Option R), idx l (pre.length : Int) K = K (.agg [.str a, .str b]) := fun K => by rw [he]; exact idx_mid pre r _ K
    have hw : IntKind.wrap .i64 ((pre.length : Int) + 1) = (pre.length : Int) + 1 := wrapI (by omega) (by omega)
    obtain ⟨n, hn⟩ := hnext hP
    rw [dup_step hP]
    refine Goes.step ⟨n, ?_⟩
    have d1 : (decide ((0:Int) ≤ (k : Int)) && decide ((k : Int) ≤ (out.length : Int))) = true := by rw [decide_eq_true (by omega), decide_eq_true (by omega)]; rfl
    have hk2 : (out.take k).length ≤ 8 := by simp; omega
    have hk3 : (out.drop k).length ≤ 8 := by simp; omega
    rw [r23_9b, decide_eq_false (show ¬ (out.length : Int) < (out.length : Int) by omega), cond_false]
    simp only [d1, cond_true, Int.toNat_natCast, Nat.sub_zero, List.drop_zero, take_drop_len, hid, hw, dAgg, lCons, dStr, lNil]
    refine onNil_eq (fun h0 => ?_) (fun h0 => ?_)
    · rw [room32 (by omega), cond_true]
      rw [h0] at hput
      rw [show [D.agg [D.str a, D.str b]] ++ out.drop k = insL (D.agg [D.str a, D.str b]) out from hput]
      exact hn
    · rw [room32 (by omega), cond_true, room32 (by omega), cond_true, room32 (by simp only [List.length_append, List.length_cons, List.length_nil]; omega), cond_true]
      rw [show (out.take k ++ [D.agg [D.str a, D.str b]]) ++ out.drop k = insL (D.agg [D.str a, D.str b]) out by rw [List.append_assoc]; exact hput]
      exact hn
  | y :: Q, P, k, hPQ, hP, hk, hat => by
    have hpl : l.length = pre.length + (r.length + 1) := by rw [he]; simp
    have hol : out.length = P.length + (Q.length + 1) := by rw [hPQ]; simp
    obtain ⟨a, b, rfl⟩ := isT_ex (sh_all hs |> fun h => List.all_eq_true.1 h x (by rw [he]; simp))
    obtain ⟨a', b', rfl⟩ := isT_ex (sh_all ho |> fun h => List.all_eq_true.1 h y (by rw [hPQ]; simp))
    have hid : ∀ {R : Type} (K : D → Option R), idx l (pre.length : Int) K = K (.agg [.str a, .str b]) := fun K => by rw [he]; exact idx_mid pre r _ K
    have hg : ∀ {R : Type} (K : D → Option R), lGet out P.length K = K (.agg [.str a', .str b']) := fun K => by rw [hPQ]; unfold lGet; simp
    have hw : IntKind.wrap .i64 ((P.length : Int) + 1) = ((P.length + 1 : Nat) : Int) := by rw [wrapI (by omega) (by omega)]; omega
    have e0 : decide ((0:Int) ≤ (P.length : Int)) = true := decide_eq_true (by omega)
    have e1 : decide ((P.length : Int) < (out.length : Int)) = true := decide_eq_true (by omega)
    have g0 : ∀ {R : Type} (x y : List UInt8) (K : D → Option R), lGet [D.str x, D.str y] 0 K = K (.str x) := fun x y K => rfl
    cases hq : (a' == a) with
    | true =>
      refine Goes.step ⟨0, ?_⟩
      rw [r23_9b]
      simp only [e0, e1, Bool.and_self, cond_true, Int.toNat_natCast, hg, hid, dAgg, g0, dStr, hq]
      have hm : out.any (eqN (nmT (D.agg [.str a, .str b]))) = true := by
        rw [hPQ, List.any_append, List.any_cons]
        have : eqN (nmT (D.agg [.str a, .str b])) (D.agg [.str a', .str b']) = true := hq
        rw [this]; simp
      have e : rmR out (D.agg [.str a, .str b] :: r) = .tuple [.snil, .i .i64 8] := by unfold rmR; rw [dup_mem hm]; rfl
      rw [e]
    | false =>
      have hP' : (P ++ [D.agg [.str a', .str b']]).any (eqN (nmT (D.agg [.str a, .str b]))) = false := by
        rw [List.any_append, hP, Bool.false_or, List.any_cons]
        have : eqN (nmT (D.agg [.str a, .str b])) (D.agg [.str a', .str b']) = false := hq
        rw [this]; rfl
      have hlt : ltx (D.agg [.str a, .str b]) (D.agg [.str a', .str b']) = lessB a' a := rfl
      rw [atF, hlt] at hat
      obtain ⟨n, hn⟩ := g23i l hl hs r _ pre out he hst ho hlen hnext Q (P ++ [D.agg [.str a', .str b']]) (bif lessB a' a then P.length + 1 else k) (by rw [hPQ]; simp) hP' (by cases lessB a' a <;> simp <;> omega) (by rw [hat]; simp)
      refine Goes.step ⟨n, ?_⟩
      rw [r23_9b]
      simp only [e0, e1, Bool.and_self, cond_true, Int.toNat_natCast, hg, hid, dAgg, g0, dStr, hq, cond_false, hw]
      rw [List.length_append] at hn
      cases hl2 : lessB a' a with
      | true => rw [hl2] at hn; exact hn
      | false => rw [hl2] at hn; exact hn
theorem sh_ins {x : D} {out : List D} (hx : shT x = true) (ho : out.all shT = true) : (insL x out).all shT = true := List.all_eq_true.2 fun d hd => by
  rcases List.mem_cons.1 ((insL_perm x out).mem_iff.1 hd) with rfl | hd
  · exact hx
  · exact List.all_eq_true.1 ho d hd
theorem g23o (l : List D) (hl : l.length ≤ 8) (hs : l.all shT = true) : ∀ (rest pre out : List D) (i : Int), l = pre ++ rest → i = (pre.length : Int) → Strict out → out.all shT = true → out.length = pre.length →
    Goes (Γ mx) H23 23 5 ⟨[(0, .sl 80 .any l), (4, .ref 80 0), (5, .i .i64 i)], [some (.arr 80 out false)]⟩ (rmR out rest, [])
  | [], pre, out, i, he, hi, hst, ho, hlen => by
    subst hi
    refine Goes.step ⟨0, ?_⟩
    have hpl : pre.length = l.length := by rw [he]; simp
    have e : rmR out [] = bif tsB out then .tuple [.sl 80 .any out, .i .i64 0] else .tuple [.snil, .i .i64 2] := rfl
    rw [r23_5b, decide_eq_false (show ¬ (pre.length : Int) < (l.length : Int) by omega), tC_of (by omega) ho, e]
    cases tsB out <;> rfl
  | x :: r, pre, out, i, he, hi, hst, ho, hlen => by
    subst hi
    have hpl : l.length = pre.length + (r.length + 1) := by rw [he]; simp
    have hx : shT x = true := List.all_eq_true.1 hs x (by rw [he]; simp)
    obtain ⟨n, hn⟩ := g23i (mx := mx) l hl hs r x pre out he hst ho hlen (fun hn => g23o l hl hs r (pre ++ [x]) (insL x out) ((pre.length : Int) + 1) (by rw [he]; simp) (by simp) (ins_strict hst hn) (sh_ins hx ho) (by have := (insL_perm x out).length_eq; simp at this ⊢; omega)) out [] 0 rfl rfl (Nat.le_refl _) rfl
    refine Goes.step ⟨n, ?_⟩
    rw [r23_5b, decide_eq_true (show (pre.length : Int) < (l.length : Int) by omega), cond_true]
    exact hn
theorem rm_val (l : List D) (h8 : l.length ≤ 8) : ∀ {w : World} {S : Addr → Prop} {σ : Loc} {v : Value}, RepA (Γ mx).P w S σ [] (rmR [] l) v → RepA (Γ mx).P w S σ [] (.tuple [.sl 80 .any (mkL l), .i .i64 (mkE l)]) v := by
  intro w S σ v h
  unfold rmR at h
  rw [dup_adj] at h
  unfold mkL mkE
  rw [decide_eq_false (by omega), cond_false]
  cases hd : adjE (srt [] l) with
  | true => rw [hd] at h; exact wk_nil _ _ _ _ _ _ h
  | false =>
    rw [hd, cond_false] at h
    rw [cond_false]
    cases ht : tsB (srt [] l) with
    | true => rw [ht] at h; exact h
    | false => rw [ht] at h; exact wk_nil _ _ _ _ _ _ h
theorem c23 (l : List D) (h : tC l = true) : RetX (Γ mx) 23 [.sl 80 .any l] [] (.tuple [.sl 80 .any (mkL l), .i .i64 (mkE l)]) [] := by
  obtain ⟨hl, hs⟩ := tC_eq h
  by_cases h8 : l.length ≤ 8
  · cases l with
    | nil =>
      have e0 : Goes (Γ mx) H23 23 5 ⟨[(0, .sl 80 .any []), (4, .sl 80 .ex []), (5, .i .i64 0)], []⟩ (.tuple [.sl 80 .ex [], .i .i64 0], []) := Goes.step ⟨0, by rw [r23_5a]; rfl⟩
      obtain ⟨n, hn⟩ := e0
      exact RetX.wk (ret_goes (Γ := Γ mx) (f := 23) (args := [.sl 80 .any []]) (obs := []) hP hZ h23_ok (by kernel_rfl) ⟨n, by rw [r23]; exact hn⟩) (wk_pair _ _ _)
    | cons x r =>
      have hx : shT x = true := List.all_eq_true.1 hs x (by simp)
      have hr : rmR [] (x :: r) = rmR [x] r := dup_step rfl
      obtain ⟨n, hn⟩ := g23o (mx := mx) (x :: r) h8 hs r [x] [x] 1 rfl rfl (List.pairwise_singleton ..) (by simpa using hx) rfl
      obtain ⟨a, b, rfl⟩ := isT_ex (shT_is hx)
      have e9 : Goes (Γ mx) H23 23 9 ⟨[(0, .sl 80 .any (.agg [.str a, .str b] :: r)), (4, .sl 80 .ex []), (5, .i .i64 0), (6, .i .i64 0), (7, .i .i64 0)], []⟩ (rmR [] (.agg [.str a, .str b] :: r), []) := by
        rw [hr]
        refine Goes.step ⟨n, ?_⟩
        rw [r23_9a]
        refine Eq.trans ?_ hn
        kernel_rfl
      obtain ⟨n9, hn9⟩ := e9
      have e5 : Goes (Γ mx) H23 23 5 ⟨[(0, .sl 80 .any (.agg [.str a, .str b] :: r)), (4, .sl 80 .ex []), (5, .i .i64 0)], []⟩ (rmR [] (.agg [.str a, .str b] :: r), []) := by
        refine Goes.step ⟨n9, ?_⟩
        rw [r23_5a, decide_eq_true (show (0 : Int) < ((D.agg [.str a, .str b] :: r).length : Int) by simp only [List.length_cons]; omega), cond_true]
        exact hn9
      obtain ⟨n5, hn5⟩ := e5
      refine RetX.to (ret_goes (Γ := Γ mx) (f := 23) (args := [.sl 80 .any (.agg [.str a, .str b] :: r)]) (obs := []) hP hZ h23_ok (by kernel_rfl) ⟨n5, ?_⟩) fun w S σ v hv => rm_val _ h8 hv
      rw [r23, decide_eq_false (show ¬ ((D.agg [.str a, .str b] :: r).length : Int) > 8 by omega), cond_false]
      exact hn5
  · obtain ⟨e1, e2⟩ := mk_big h8
    rw [e1, e2]
    refine RetX.wk (ret_goes (Γ := Γ mx) (f := 23) (args := [.sl 80 .any l]) (obs := []) hP hZ h23_ok (by kernel_rfl) ⟨0, ?_⟩) (wk_nil _)
    rw [r23, decide_eq_true (show (l.length : Int) > 8 by omega)]; rfl
end Go.Proofs.YtjbemleloffafaaDoor.V

/- Tags: contracts: merge, text. -/
namespace Go.Proofs.YtjbemleloffafaaDoor.V
open Go
set_option maxRecDepth 100000
set_option linter.unusedVariables false
set_option linter.unusedSimpArgs false
variable {mx : Int}
/-! ### merge -/
theorem h28_ok : CallsOK (Γ mx) H28 := specs_ok (.cons (spL1s_ok c26) (.cons xClone_ok (.cons (spLS_ok c29) (.cons (spL1_ok c22) .nil))))
theorem new_cons (t : D) (r b : List D) : newT (t :: r) b = bif getB b (nmT t) then newT r b else t :: newT r b := by
  unfold newT
  rw [List.filter_cons]
  cases getB b (nmT t) <;> simp
theorem tC_app {a b : List D} (h1 : a.length + b.length ≤ 100) (h2 : a.all shT = true) (h3 : b.all shT = true) : tC (a ++ b) = true := tC_of (by simp; omega) (by rw [List.all_append, h2, h3]; rfl)
theorem ts_len {l : List D} (h : tsB l = true) : l.length ≤ 8 := by unfold tsB at h; simp only [Bool.and_eq_true, decide_eq_true_eq] at h; exact h.1
theorem new_len (a b : List D) : (newT a b).length ≤ a.length := List.length_filter_le _ _
theorem g28 (a b : List D) (ha : a.length ≤ 8) (hs : a.all shT = true) (hb : tC b = true) : ∀ (rest pre done : List D) (i : Int), a = pre ++ rest → i = (pre.length : Int) → done.length ≤ 8 + pre.length → done.all shT = true →
    Goes (Γ mx) H28 28 5 ⟨[(1, .sl 80 .any b), (6, .ref 80 0), (21, .sl 80 .any a), (22, .i .i64 (a.length : Int)), (23, .i .i64 i)], [some (.arr 80 done false)]⟩ (.tuple [.sl 80 .any (mkL (done ++ newT rest b)), .i .i64 (mkE (done ++ newT rest b))], [])
  | [], pre, done, i, he, hi, hd, hds => by
    subst hi
    have hpl : pre.length = a.length := by rw [he]; simp
    refine Goes.step ⟨0, ?_⟩
    rw [r28_5a, decide_eq_false (show ¬ (pre.length : Int) < (a.length : Int) by omega), tC_of (by omega) hds]
    simp [newT]
  | t :: r, pre, done, i, he, hi, hd, hds => by
    subst hi
    have hpl : a.length = pre.length + (r.length + 1) := by rw [he]; simp
    have ht : shT t = true := List.all_eq_true.1 hs t (by rw [he]; simp)
    obtain ⟨x, y, rfl⟩ := isT_ex (shT_is ht)
    have hid : ∀ {R : Type} (K : D → Option R), idx a (pre.length : Int) K = K (.agg [.str x, .str y]) := fun K => by rw [he]; exact idx_mid pre r _ K
    have hw : IntKind.wrap .i64 ((pre.length : Int) + 1) = (pre.length : Int) + 1 := wrapI (by omega) (by omega)
    rw [new_cons, show nmT (.agg [.str x, .str y]) = x from rfl]
    cases hg : getB b x with
    | true =>
      obtain ⟨n, hn⟩ := g28 a b ha hs hb r (pre ++ [.agg [.str x, .str y]]) done ((pre.length : Int) + 1) (by rw [he]; simp) (by simp) (by simp; omega) hds
      refine Goes.step ⟨n, ?_⟩
      rw [r28_5a, decide_eq_true (show (pre.length : Int) < (a.length : Int) by omega), cond_true, hid]
      simp only [dAgg, lCons, dStr, lNil, hb, cond_true, hg, Bool.not_true, cond_false, hw]
      exact hn
    | false =>
      obtain ⟨n, hn⟩ := g28 a b ha hs hb r (pre ++ [.agg [.str x, .str y]]) (done ++ [.agg [.str x, .str y]]) ((pre.length : Int) + 1) (by rw [he]; simp) (by simp) (by simp; omega) (by rw [List.all_append, hds]; simpa using ht)
      refine Goes.step ⟨n, ?_⟩
      rw [r28_5a, decide_eq_true (show (pre.length : Int) < (a.length : Int) by omega), cond_true, hid]
      simp only [dAgg, lCons, dStr, lNil, hb, cond_true, hg, Bool.not_false, hw, room32 (show done.length + 1 ≤ 100000000 by omega), cond_false]
      rw [List.append_assoc] at hn
      exact hn
theorem mg_no {a b : List D} (h : (tsB a && tsB b) = false) : mgE a b = 2 ∧ mgL a b = [] := by unfold mgE mgL; rw [h]; exact ⟨rfl, rfl⟩
theorem mg_yes {a b : List D} (h : (tsB a && tsB b) = true) : mgE a b = mkE (b ++ newT a b) ∧ mgL a b = mkL (b ++ newT a b) := by unfold mgE mgL; rw [h]; exact ⟨rfl, rfl⟩
theorem c28 (a b : List D) (h : (tC a && tC b) = true) : RetX (Γ mx) 28 [.sl 80 .any a, .sl 80 .any b] [] (.tuple [.sl 80 .any (mgL a b), .i .i64 (mgE a b)]) [] := by
  simp only [Bool.and_eq_true] at h
  obtain ⟨h1, h2⟩ := h
  obtain ⟨hl1, hs1⟩ := tC_eq h1
  obtain ⟨hl2, hs2⟩ := tC_eq h2
  cases hta : tsB a with
  | false =>
    obtain ⟨e1, e2⟩ := mg_no (a := a) (b := b) (by rw [hta]; rfl)
    rw [e1, e2]
    cases b with
    | nil => exact RetX.wk (ret_goes (Γ := Γ mx) (f := 28) (args := [.sl 80 .any a, .sl 80 .any []]) (obs := []) hP hZ h28_ok (by kernel_rfl) ⟨0, by rw [nr28, h1, hta]; rfl⟩) (wk_nil _)
    | cons x r => exact RetX.wk (ret_goes (Γ := Γ mx) (f := 28) (args := [.sl 80 .any a, .sl 80 .any (x :: r)]) (obs := []) hP hZ h28_ok (by kernel_rfl) ⟨0, by rw [r28, h1, hta]; rfl⟩) (wk_nil _)
  | true =>
    have ha8 := ts_len hta
    cases b with
    | nil =>
      obtain ⟨e1, e2⟩ := mg_yes (a := a) (b := []) (by rw [hta]; rfl)
      rw [e1, e2, List.nil_append]
      have hgo : Goes (Γ mx) H28 28 5 ⟨[(1, .sl 80 .any []), (6, .sl 80 .cl []), (21, .sl 80 .any a), (22, .i .i64 (a.length : Int)), (23, .i .i64 0)], []⟩ (.tuple [.sl 80 .any (mkL (newT a [])), .i .i64 (mkE (newT a []))], []) := by
        cases a with
        | nil => exact Goes.step ⟨0, by rw [nr28_5a]; rfl⟩
        | cons t r =>
          have ht : shT t = true := List.all_eq_true.1 hs1 t (by simp)
          obtain ⟨n, hn⟩ := g28 (mx := mx) (t :: r) [] ha8 hs1 h2 r [t] [t] 1 rfl rfl (by simp) (by simpa using ht)
          obtain ⟨x, y, rfl⟩ := isT_ex (shT_is ht)
          have e : newT (.agg [.str x, .str y] :: r) [] = [D.agg [.str x, .str y]] ++ newT r [] := by rw [new_cons]; rfl
          rw [e]
          refine Goes.step ⟨n, ?_⟩
          rw [nr28_5a, decide_eq_true (show (0 : Int) < ((D.agg [.str x, .str y] :: r).length : Int) by simp only [List.length_cons]; omega), cond_true]
          refine Eq.trans ?_ hn
          kernel_rfl
      obtain ⟨n, hn⟩ := hgo
      exact ret_goes (Γ := Γ mx) hP hZ h28_ok (by kernel_rfl) ⟨n, by rw [nr28, h1, hta, h2]; exact hn⟩
    | cons x r =>
      cases htb : tsB (x :: r) with
      | false =>
        obtain ⟨e1, e2⟩ := mg_no (a := a) (b := x :: r) (by rw [hta, htb]; rfl)
        rw [e1, e2]
        exact RetX.wk (ret_goes (Γ := Γ mx) (f := 28) (args := [.sl 80 .any a, .sl 80 .any (x :: r)]) (obs := []) hP hZ h28_ok (by kernel_rfl) ⟨0, by rw [r28, h1, hta, h2, htb]; rfl⟩) (wk_nil _)
      | true =>
        obtain ⟨e1, e2⟩ := mg_yes (a := a) (b := x :: r) (by rw [hta, htb]; rfl)
        rw [e1, e2]
        have hb8 := ts_len htb
        obtain ⟨n, hn⟩ := g28 (mx := mx) a (x :: r) ha8 hs1 h2 a [] (x :: r) 0 rfl rfl (by simpa using hb8) hs2
        exact ret_goes (Γ := Γ mx) hP hZ h28_ok (by kernel_rfl) ⟨n, by rw [r28, h1, hta, h2, htb]; exact hn⟩
/-! ### text -/
section
variable {Γ : Ctx} {g : FuncId}
end
theorem spJ2_ok : SpecOK (Γ mx) ⟨43, dat spJ2⟩ := dat_ok fun args r hr => by
  unfold spJ2 at hr
  split at hr
  · simp only [Option.some.injEq, Prod.mk.injEq] at hr
    obtain ⟨h1, rfl⟩ := hr
    exact (join_ret .any _ _ h1).args (.cons (WkA.nil 9) (.cons (WkA.refl _) .nil))
  · simp only [Option.some.injEq, Prod.mk.injEq] at hr
    obtain ⟨h1, rfl⟩ := hr
    exact join_ret _ _ _ h1
  · exact absurd hr (by simp)
theorem h32_ok : CallsOK (Γ mx) H32 := specs_ok (.cons (spL1s_ok c26) (.cons (sp1_ok c57) (.cons spJ2_ok .nil)))
theorem pt_len {d : D} (h1 : (nmT d).length ≤ 64) (h2 : (vlT d).length ≤ 64) : (ptT d).length ≤ 400 := by
  have e1 := esc_len (nmT d)
  have e2 := esc_len (vlT d)
  unfold ptT
  simp only [List.length_append, List.length_cons]
  omega
theorem good_len {d : D} (h : goodT d = true) : (nmT d).length ≤ 64 ∧ (vlT d).length ≤ 64 := by
  unfold goodT at h
  simp only [Bool.and_eq_true, decide_eq_true_eq] at h
  exact ⟨h.1.1.2, h.1.2⟩
theorem snd_good : ∀ {l : List D} {o : Option D}, snd1 o l = true → ∀ d ∈ l, goodT d = true
  | [], _, _, d, hd => by cases hd
  | t :: r, o, h, d, hd => by
    rw [snd1_cons] at h
    simp only [Bool.and_eq_true] at h
    rcases List.mem_cons.1 hd with rfl | hd
    · exact h.1
    · exact snd_good h.2.2 d hd
theorem ts_good {l : List D} (h : tsB l = true) : ∀ d ∈ l, goodT d = true := by
  unfold tsB at h
  simp only [Bool.and_eq_true] at h
  exact snd_good h.2
theorem joinT_len : ∀ {l : List D}, (∀ d ∈ l, goodT d = true) → (joinT l).length ≤ 401 * l.length
  | [], _ => by simp [joinT, Lib.join]
  | [t], h => by
    have := good_len (h t (by simp))
    have := pt_len this.1 this.2
    unfold joinT
    rw [List.map_cons, List.map_nil, Lib.join_one]
    simp; omega
  | t :: y :: r, h => by
    have := good_len (h t (by simp))
    have := pt_len this.1 this.2
    have ih := joinT_len (l := y :: r) fun d hd => h d (List.mem_cons_of_mem _ hd)
    unfold joinT at ih ⊢
    rw [List.map_cons, join_cons _ (by simp)]
    simp only [List.length_append, List.length_cons, List.length_nil] at ih ⊢
    omega
theorem txt_strs (q : List (List UInt8)) : (q.map D.str).map txt = q := by rw [List.map_map]; exact List.map_id q
theorem joinC_of {q : List (List UInt8)} (h1 : q.length ≤ 1000) (h2 : (Lib.join q [38]).length ≤ 1000000) : joinC (q.map D.str) [38] = true := by
  have ha : (q.map D.str).all isStr = true := List.all_eq_true.2 fun d hd => by obtain ⟨x, _, rfl⟩ := List.mem_map.1 hd; rfl
  unfold joinC joinV
  rw [ha, txt_strs, decide_eq_true (by simp; omega), decide_eq_true (by omega)]; rfl
theorem joinV_of (q : List (List UInt8)) : joinV (q.map D.str) [38] = Lib.join q [38] := by unfold joinV; rw [txt_strs]
theorem esc_app (a b : List UInt8) : (escV a ++ [61]) ++ escV b = escV a ++ 61 :: escV b := by simp
theorem g32 (l : List D) (hts : tsB l = true) (hs : l.all shT = true) : ∀ (rest pre : List D) (i : Int), l = pre ++ rest → pre ≠ [] → i = (pre.length : Int) →
    Goes (Γ mx) H32 32 5 ⟨[(4, .ref 9 0), (10, .sl 80 .any l), (11, .i .i64 (l.length : Int)), (12, .i .i64 i)], [some (.arr 9 ((pre.map ptT).map D.str) false)]⟩ (.tuple [.s (joinT l), .i .i64 0], [])
  | [], pre, i, he, hp, hi => by
    subst hi
    rw [List.append_nil] at he
    subst he
    have h8 := ts_len hts
    have hj := joinT_len (ts_good hts)
    refine Goes.step ⟨0, ?_⟩
    rw [r32_5b, decide_eq_false (show ¬ (l.length : Int) < (l.length : Int) by omega), joinC_of (by simp; omega) (by unfold joinT at hj; omega), joinV_of]; rfl
  | t :: r, pre, i, he, hp, hi => by
    subst hi
    have h8 := ts_len hts
    have hpl : l.length = pre.length + (r.length + 1) := by rw [he]; simp
    have ht : shT t = true := List.all_eq_true.1 hs t (by rw [he]; simp)
    have hgd := good_len (ts_good hts t (by rw [he]; simp))
    obtain ⟨x, y, rfl, hx, hy⟩ := shT_ex ht
    have hgd : x.length ≤ 64 ∧ y.length ≤ 64 := hgd
    have e1 := esc_len x
    have e2 := esc_len y
    have hid : ∀ {R : Type} (K : D → Option R), idx l (pre.length : Int) K = K (.agg [.str x, .str y]) := fun K => by rw [he]; exact idx_mid pre r _ K
    have hw : IntKind.wrap .i64 ((pre.length : Int) + 1) = (pre.length : Int) + 1 := wrapI (by omega) (by omega)
    obtain ⟨n, hn⟩ := g32 l hts hs r (pre ++ [.agg [.str x, .str y]]) ((pre.length : Int) + 1) (by rw [he]; simp) (by simp) (by simp)
    refine Goes.step ⟨n, ?_⟩
    have m1 : decide ((escV x).length + ([61] : List UInt8).length ≤ maxStr) = true := decide_eq_true (by unfold maxStr; simp only [List.length_cons, List.length_nil]; omega)
    have m2 : decide ((escV x ++ [61]).length + (escV y).length ≤ maxStr) = true := decide_eq_true (by unfold maxStr; simp only [List.length_append, List.length_cons, List.length_nil]; omega)
    rw [r32_5b, decide_eq_true (show (pre.length : Int) < (l.length : Int) by omega), cond_true, hid]
    simp only [dAgg, lCons, dStr, lNil, hx, hy, cond_true, m1, m2, hw]
    rw [room16b (by simp; omega), cond_true, esc_app]
    rw [List.map_append, List.map_append] at hn
    exact hn
theorem c32 (l : List D) (h : tC l = true) : RetX (Γ mx) 32 [.sl 80 .any l] [] (.tuple [.s (txS l), .i .i64 (txE l)]) [] := by
  obtain ⟨hl, hs⟩ := tC_eq h
  cases hts : tsB l with
  | false => exact ret_goes (Γ := Γ mx) hP hZ h32_ok (by kernel_rfl) ⟨0, by rw [r32, h, hts]; unfold txS txE; rw [hts]; rfl⟩
  | true =>
    have hg : Goes (Γ mx) H32 32 5 ⟨[(4, .snil), (10, .sl 80 .any l), (11, .i .i64 (l.length : Int)), (12, .i .i64 0)], []⟩ (.tuple [.s (joinT l), .i .i64 0], []) := by
      cases l with
      | nil => exact Goes.step ⟨0, by rw [r32_5a]; kernel_rfl⟩
      | cons t r =>
        have ht : shT t = true := List.all_eq_true.1 hs t (by simp)
        have hgd := good_len (ts_good hts t (by simp))
        obtain ⟨n, hn⟩ := g32 (mx := mx) (t :: r) hts hs r [t] 1 rfl (by simp) rfl
        obtain ⟨x, y, rfl, hx, hy⟩ := shT_ex ht
        have hgd : x.length ≤ 64 ∧ y.length ≤ 64 := hgd
        have e1 := esc_len x
        have e2 := esc_len y
        have m1 : decide ((escV x).length + ([61] : List UInt8).length ≤ maxStr) = true := decide_eq_true (by unfold maxStr; simp only [List.length_cons, List.length_nil]; omega)
        have m2 : decide ((escV x ++ [61]).length + (escV y).length ≤ maxStr) = true := decide_eq_true (by unfold maxStr; simp only [List.length_append, List.length_cons, List.length_nil]; omega)
        have hid : ∀ {R : Type} (K : D → Option R), idx (D.agg [.str x, .str y] :: r) 0 K = K (.agg [.str x, .str y]) := fun K => rfl
        refine Goes.step ⟨n, ?_⟩
        rw [r32_5a, decide_eq_true (show (0 : Int) < ((D.agg [.str x, .str y] :: r).length : Int) by simp only [List.length_cons]; omega), cond_true, hid]
        simp only [dAgg, lCons, dStr, lNil, hx, hy, cond_true, m1, m2]
        rw [esc_app]
        exact hn
    obtain ⟨n, hn⟩ := hg
    refine ret_goes (Γ := Γ mx) hP hZ h32_ok (by kernel_rfl) ⟨n, ?_⟩
    rw [r32, h, hts]
    unfold txS txE
    rw [hts]
    exact hn
theorem h33_ok : CallsOK (Γ mx) H33 := specs_ok (.cons (spL1s_ok c27) (.cons (sp1_ok c58) .nil))
theorem join_snoc {t : D} : ∀ (p : List D), p ≠ [] → joinT (p ++ [t]) = (joinT p ++ [38]) ++ ptT t
  | [], h => absurd rfl h
  | [x], _ => by unfold joinT; simp [Lib.join, List.intercalate]
  | x :: z :: p, _ => by
    have ih := join_snoc (t := t) (z :: p) (by simp)
    have a : ∀ q : List D, q ≠ [] → joinT (x :: q) = ptT x ++ [38] ++ joinT q := fun q hq => by unfold joinT; rw [List.map_cons, join_cons _ (by simpa using hq)]
    rw [List.cons_append, a _ (by simp), ih, a _ (by simp)]
    simp only [List.append_assoc]
theorem g33 (l : List D) (hts : tsB l = true) (hs : l.all shT = true) : ∀ (rest pre : List D) (i : Int), l = pre ++ rest → i = (pre.length : Int) →
    Goes (Γ mx) H33 33 5 ⟨[(0, .sl 80 .any l), (4, .s (joinT pre)), (5, .i .i64 i)], []⟩ (.tuple [.s (joinT l), .i .i64 0], [])
  | [], pre, i, he, hi => by
    subst hi
    rw [List.append_nil] at he
    subst he
    refine Goes.step ⟨0, ?_⟩
    rw [r33_5a, decide_eq_false (show ¬ (l.length : Int) < (l.length : Int) by omega)]; rfl
  | t :: r, pre, i, he, hi => by
    subst hi
    have h8 := ts_len hts
    have hpl : l.length = pre.length + (r.length + 1) := by rw [he]; simp
    have ht : shT t = true := List.all_eq_true.1 hs t (by rw [he]; simp)
    have hgd := good_len (ts_good hts t (by rw [he]; simp))
    have hj := joinT_len (l := pre) fun d hd => ts_good hts d (by rw [he]; simp [hd])
    obtain ⟨n, hn⟩ := g33 l hts hs r (pre ++ [t]) ((pre.length : Int) + 1) (by rw [he]; simp) (by simp)
    obtain ⟨x, y, rfl, hx, hy⟩ := shT_ex ht
    have hgd : x.length ≤ 64 ∧ y.length ≤ 64 := hgd
    have e1 := esc_len x
    have e2 := esc_len y
    have hid : ∀ {R : Type} (K : D → Option R), idx l (pre.length : Int) K = K (.agg [.str x, .str y]) := fun K => by rw [he]; exact idx_mid pre r _ K
    have hw : IntKind.wrap .i64 ((pre.length : Int) + 1) = (pre.length : Int) + 1 := wrapI (by omega) (by omega)
    have g0 : ∀ {R : Type} (x y : List UInt8) (K : D → Option R), lGet [D.str x, D.str y] 0 K = K (.str x) := fun x y K => rfl
    have g1 : ∀ {R : Type} (x y : List UInt8) (K : D → Option R), lGet [D.str x, D.str y] 1 K = K (.str y) := fun x y K => rfl
    have m1 : decide ((escV x).length + ([61] : List UInt8).length ≤ maxStr) = true := decide_eq_true (by unfold maxStr; simp only [List.length_cons, List.length_nil]; omega)
    have m2 : decide ((escV x ++ [61]).length + (escV y).length ≤ maxStr) = true := decide_eq_true (by unfold maxStr; simp only [List.length_append, List.length_cons, List.length_nil]; omega)
    have m0 : decide ((joinT pre).length + ([38] : List UInt8).length ≤ maxStr) = true := decide_eq_true (by unfold maxStr; simp only [List.length_cons, List.length_nil]; omega)
    have m3 : decide ((joinT pre ++ [38]).length + ((escV x ++ [61]) ++ escV y).length ≤ maxStr) = true := decide_eq_true (by unfold maxStr; simp only [List.length_append, List.length_cons, List.length_nil]; omega)
    have m4 : decide ((joinT pre).length + ((escV x ++ [61]) ++ escV y).length ≤ maxStr) = true := decide_eq_true (by unfold maxStr; simp only [List.length_append, List.length_cons, List.length_nil]; omega)
    refine Goes.step ⟨n, ?_⟩
    rw [r33_5a, decide_eq_true (show (pre.length : Int) < (l.length : Int) by omega), cond_true]
    simp only [hid, dAgg, g0, g1, dStr, hx, hy, cond_true, m1, m2, m0, m3, m4, hw]
    cases pre with
    | nil =>
      rw [decide_eq_false (show ¬ (([] : List D).length : Int) > 0 by simp), cond_false]
      have e : joinT ([] ++ [D.agg [.str x, .str y]]) = joinT [] ++ ((escV x ++ [61]) ++ escV y) := by
        rw [esc_app]; simp [joinT, Lib.join, List.intercalate]; rfl
      rw [← e]
      exact hn
    | cons p q =>
      rw [decide_eq_true (show ((p :: q).length : Int) > 0 by simp only [List.length_cons]; omega), cond_true]
      have e : joinT ((p :: q) ++ [D.agg [.str x, .str y]]) = (joinT (p :: q) ++ [38]) ++ ((escV x ++ [61]) ++ escV y) := by
        rw [join_snoc (p :: q) (by simp), esc_app]; rfl
      rw [← e]
      exact hn
theorem c33 (l : List D) (h : tC l = true) : RetX (Γ mx) 33 [.sl 80 .any l] [] (.tuple [.s (txS l), .i .i64 (txE l)]) [] := by
  obtain ⟨hl, hs⟩ := tC_eq h
  cases hts : tsB l with
  | false => exact ret_goes (Γ := Γ mx) hP hZ h33_ok (by kernel_rfl) ⟨0, by rw [r33, h, hts]; unfold txS txE; rw [hts]; rfl⟩
  | true =>
    obtain ⟨n, hn⟩ := g33 (mx := mx) l hts hs l [] 0 rfl rfl
    refine ret_goes (Γ := Γ mx) hP hZ h33_ok (by kernel_rfl) ⟨n, ?_⟩
    rw [r33, h, hts]
    unfold txS txE
    rw [hts]
    exact hn
end Go.Proofs.YtjbemleloffafaaDoor.V

/- Tags: contracts: parse. Some lines were written by program. -/
namespace Go.Proofs
set_option maxRecDepth 100000
def Lt.lays145_ren : Go.Shelf.Ren := ⟨fun | 145 => 59 | 217 => 118 | 219 => 117 | 220 => 85 | 224 => 141 | 225 => 140 | 266 => 143 | 267 => 142 | 314 => 155 | n => n, fun | 3 => 3 | 4 => 4 | 5 => 5 | 9 => 9 | 46 => 121 | 51 => 157 | 59 => 85 | 146 => 190 | n => n, fun | 1 => 3 | n => n⟩
theorem Lt.lays145 : Go.Proofs.Lays.n145 Tryd.prog Lt.lays145_ren :=
  { mixed := by kernel_rfl, f145 := Tryd.func59.trans (congrArg some (by kernel_rfl)), f217 := Tryd.func118.trans (congrArg some (by kernel_rfl)), f219 := Tryd.func117.trans (congrArg some (by kernel_rfl)), f220 := Tryd.func85.trans (congrArg some (by kernel_rfl)), f224 := Tryd.func141.trans (congrArg some (by kernel_rfl)), f225 := Tryd.func140.trans (congrArg some (by kernel_rfl)), f266 := Tryd.func143.trans (congrArg some (by kernel_rfl)), f267 := Tryd.func142.trans (congrArg some (by kernel_rfl)), f314 := Tryd.func155.trans (congrArg some (by kernel_rfl)), t3 := Tryd.underlying3, a3 := Tryd.isAgg3, z3 := Tryd.sizeOf3, v3 := Tryd.zeroValue3, t4 := Tryd.underlying4, a4 := Tryd.isAgg4, z4 := Tryd.sizeOf4, v4 := Tryd.zeroValue4, t5 := Tryd.underlying5, a5 := Tryd.isAgg5, z5 := Tryd.sizeOf5, v5 := Tryd.zeroValue5, t9 := Tryd.underlying9, a9 := Tryd.isAgg9, z9 := Tryd.sizeOf9, v9 := Tryd.zeroValue9, t46 := Tryd.underlying121, a46 := Tryd.isAgg121, z46 := Tryd.sizeOf121, v46 := Tryd.zeroValue121, t51 := Tryd.underlying157, a51 := Tryd.isAgg157, z51 := Tryd.sizeOf157, v51 := Tryd.zeroValue157, t59 := Tryd.underlying85, a59 := Tryd.isAgg85, z59 := Tryd.sizeOf85, v59 := Tryd.zeroValue85, t146 := Tryd.underlying190, a146 := Tryd.isAgg190, z146 := Tryd.sizeOf190, v146 := Tryd.zeroValue190, g1 := by kernel_rfl }

end Go.Proofs
namespace Go.Proofs.YtjbemleloffafaaDoor.V
open Go Go.RowKit
set_option maxRecDepth 100000
set_option linter.unusedVariables false
set_option linter.unusedSimpArgs false
variable {mx : Int}
theorem below_drewN {w : World} (k : Nat) : Below w.heap.size w (w.drewN k) := ⟨rfl, rfl, rfl, Nat.le_refl _, fun _ _ => rfl⟩
theorem cut_ret (s : List UInt8) (h : s32 s = true) : RetX (Γ mx) 59 [.s s, .s [61]] [] (.tuple [.s (tcA s), .s (tcB s), .b (tcF s)]) [] := by
  refine ret_shelfN (by kernel_rfl) fun w S vals hS hG ha => ?_
  simp only [RepAs, RepA] at ha
  obtain ⟨v, _, rfl, ⟨s, rfl, rfl⟩, v', _, rfl, ⟨u, hu, rfl⟩, rfl⟩ := ha
  obtain rfl := ba_eq hu
  refine (Any.strings_Cut Lt.lays145 s ⟨#[61]⟩ mx w (by simpa [s32] using h) (max_cell hG)).mono ?_
  rintro e w' ⟨rfl, n, rfl⟩
  refine ⟨_, rfl, below_drewN n, S, fun _ h => h, fun _ h => .inl h, ?_⟩
  simp only [RepA, RepAs]
  exact ⟨_, rfl, _, _, rfl, ⟨_, list_eta _, rfl⟩, _, _, rfl, ⟨_, list_eta _, rfl⟩, _, _, rfl, rfl, rfl⟩
theorem spCut_ok : SpecOK (Γ mx) ⟨59, dat spCut⟩ := dat_ok fun args r hr => by
  unfold spCut at hr
  split at hr
  · simp only [Option.some.injEq, Prod.mk.injEq] at hr
    obtain ⟨h1, rfl⟩ := hr
    exact cut_ret _ h1
  · exact absurd hr (by simp)
theorem spSp38_ok : SpecOK (Γ mx) ⟨46, dat spSp38⟩ := dat_ok fun args r hr => by
  unfold spSp38 at hr
  split at hr
  · simp only [Option.some.injEq, Prod.mk.injEq] at hr
    obtain ⟨h1, rfl⟩ := hr
    exact split_ret 38 _ h1
  · exact absurd hr (by simp)
theorem h34_ok : CallsOK (Γ mx) H34 := specs_ok (.cons spSp38_ok (.cons spCut_ok (.cons (sp1_ok c60) (.cons (spL1s_ok c26) .nil))))
theorem h35_ok : CallsOK (Γ mx) H35 := specs_ok (.cons (sp1_ok c49) (.cons (spL1s_ok c27) .nil))
def psR (done : List D) (parts : List (List UInt8)) : AV := match prL parts with
  | none => .tuple [.snil, .i .i64 5]
  | some m => bif tsB (done ++ m) then .tuple [.sl 80 .any (done ++ m), .i .i64 0] else .tuple [.snil, .i .i64 2]
theorem psR_none {done : List D} {p : List UInt8} {q : List (List UInt8)} (h : prP p = none) : psR done (p :: q) = .tuple [.snil, .i .i64 5] := by unfold psR; rw [prL, h]
theorem psR_some {done : List D} {p : List UInt8} {q : List (List UInt8)} {t : D} (h : prP p = some t) : psR done (p :: q) = psR (done ++ [t]) q := by
  unfold psR
  rw [prL, h]
  simp only
  cases prL q with
  | none => rfl
  | some m => simp
theorem psR_nil (done : List D) : psR done [] = bif tsB done then .tuple [.sl 80 .any done, .i .i64 0] else .tuple [.snil, .i .i64 2] := by unfold psR; simp [prL]
theorem tc_some {p a b : List UInt8} (h : cutE p = some (a, b)) : tcA p = a ∧ tcB p = b ∧ tcF p = true := by
  unfold tcA tcB tcF; rw [cut_cutE, h]; exact ⟨rfl, rfl, rfl⟩
theorem tc_none {p : List UInt8} (h : cutE p = none) : tcA p = p ∧ tcB p = [] ∧ tcF p = false := by
  unfold tcA tcB tcF; rw [cut_cutE, h]; exact ⟨rfl, rfl, rfl⟩
theorem unS_len (s : List UInt8) : (unS s).length ≤ s.length := by
  unfold unS
  cases h : unV s with
  | none => simp
  | some c => exact un_len _ s c (Nat.le_refl _) h
theorem cut_len {p a b : List UInt8} (h : cutE p = some (a, b)) : a.length ≤ p.length ∧ b.length ≤ p.length := by
  rw [(cutE_some h).1]; simp; omega
theorem pr_sh {p : List UInt8} {t : D} (hp : p.length ≤ 4194304) (h : prP p = some t) : shT t = true := by
  unfold prP at h
  split at h
  · exact absurd h (by simp)
  · rename_i a b hc
    obtain ⟨_, h⟩ := cond_some h
    cases h
    have := cut_len hc
    have h1 := unS_len a
    have h2 := unS_len b
    have e : shT (mkT (unS a) (unS b)) = (short (unS a) && short (unS b)) := rfl
    rw [e, short_of (by omega), short_of (by omega)]; rfl
theorem sh_snoc {done : List D} {t : D} (h : done.all shT = true) (ht : shT t = true) : (done ++ [t]).all shT = true := by rw [List.all_append, h]; simpa using ht
theorem pr_eq {p a b : List UInt8} (h : cutE p = some (a, b)) : prP p = bif unE a == 0 && unE b == 0 then some (mkT (unS a) (unS b)) else none := by unfold prP; rw [h]
theorem ne_beq (n : Int) : (n != 0) = !(n == 0) := rfl
/-! ### tags.Parse -/
theorem g34 (q : List (List UInt8)) (hq : q.length ≤ 4194305) (hs : ∀ p ∈ q, p.length ≤ 4194304) : ∀ (rest pre : List (List UInt8)) (done : List D) (i : Int), q = pre ++ rest → i = (pre.length : Int) → done.all shT = true → done.length ≤ pre.length →
    Goes (Γ mx) H34 34 5 ⟨[(4, .ref 80 0), (17, .sl 9 .ex (q.map D.str)), (18, .i .i64 (q.length : Int)), (19, .i .i64 i)], [some (.arr 80 done false)]⟩ (psR done rest, [])
  | [], pre, done, i, he, hi, hd, hl => by
    subst hi
    have hpl : pre.length = q.length := by rw [he]; simp
    refine Goes.step ⟨0, ?_⟩
    rw [r34_5b, decide_eq_false (show ¬ (pre.length : Int) < (q.length : Int) by omega), tC_of (by omega) hd, psR_nil]
    cases tsB done <;> rfl
  | p :: r, pre, done, i, he, hi, hd, hl => by
    subst hi
    have hpl : q.length = pre.length + (r.length + 1) := by rw [he]; simp
    have hp := hs p (by rw [he]; simp)
    have hid : ∀ {R : Type} (K : D → Option R), idx (q.map D.str) (pre.length : Int) K = K (.str p) := fun K => by
      rw [he, List.map_append, List.map_cons]
      have := idx_mid (pre.map D.str) (r.map D.str) (D.str p) K
      rwa [List.length_map] at this
    have hw : IntKind.wrap .i64 ((pre.length : Int) + 1) = (pre.length : Int) + 1 := wrapI (by omega) (by omega)
    have h32 : s32 p = true := by unfold s32; exact decide_eq_true (by omega)
    cases hc : cutE p with
    | none =>
      obtain ⟨e1, e2, e3⟩ := tc_none hc
      have hn : prP p = none := by unfold prP; rw [hc]
      refine Goes.step ⟨0, ?_⟩
      rw [r34_5b, decide_eq_true (show (pre.length : Int) < (q.length : Int) by omega), cond_true, hid, psR_none hn]
      simp only [dStr, h32, e1, e2, e3, short_of hp, short_of (show ([] : List UInt8).length ≤ 4194304 by simp), cond_true, Bool.not_false]
    | some ab =>
      obtain ⟨a, b⟩ := ab
      obtain ⟨e1, e2, e3⟩ := tc_some hc
      have hab := cut_len hc
      have hpe := pr_eq hc
      cases hu : (unE a == 0) with
      | false =>
        rw [hu] at hpe
        refine Goes.step ⟨0, ?_⟩
        rw [r34_5b, decide_eq_true (show (pre.length : Int) < (q.length : Int) by omega), cond_true, hid, psR_none hpe]
        simp only [dStr, h32, e1, e2, e3, short_of (show a.length ≤ 4194304 by omega), short_of (show b.length ≤ 4194304 by omega), cond_true, Bool.not_true, cond_false, ne_beq, hu, Bool.not_false]
      | true =>
        cases hv : (unE b == 0) with
        | false =>
          rw [hu, hv] at hpe
          refine Goes.step ⟨0, ?_⟩
          rw [r34_5b, decide_eq_true (show (pre.length : Int) < (q.length : Int) by omega), cond_true, hid, psR_none hpe]
          simp only [dStr, h32, e1, e2, e3, short_of (show a.length ≤ 4194304 by omega), short_of (show b.length ≤ 4194304 by omega), cond_true, Bool.not_true, cond_false, ne_beq, hu, hv, Bool.not_false]
        | true =>
          rw [hu, hv] at hpe
          have hsh := pr_sh hp hpe
          obtain ⟨n, hn⟩ := g34 q hq hs r (pre ++ [p]) (done ++ [mkT (unS a) (unS b)]) ((pre.length : Int) + 1) (by rw [he]; simp) (by simp) (sh_snoc hd hsh) (by simp; omega)
          refine Goes.step ⟨n, ?_⟩
          rw [r34_5b, decide_eq_true (show (pre.length : Int) < (q.length : Int) by omega), cond_true, hid, psR_some hpe]
          simp only [dStr, h32, e1, e2, e3, short_of (show a.length ≤ 4194304 by omega), short_of (show b.length ≤ 4194304 by omega), cond_true, Bool.not_true, cond_false, ne_beq, hu, hv, hw, room32 (show done.length + 1 ≤ 100000000 by omega)]
          exact hn
theorem ps_val {s : List UInt8} (h : s ≠ []) : ∀ {w : World} {S : Addr → Prop} {σ : Loc} {v : Value}, RepA (Γ mx).P w S σ [] (psR [] (spl 38 s)) v → RepA (Γ mx).P w S σ [] (.tuple [.sl 80 .any (psL s), .i .i64 (psE s)]) v := by
  intro w S σ v hv
  have hs : (s == []) = false := beq_eq_false_iff_ne.2 h
  unfold psR at hv
  unfold psL psE
  rw [hs, cond_false, cond_false]
  cases hp : prL (spl 38 s) with
  | none => rw [hp] at hv; exact wk_nil _ _ _ _ _ _ hv
  | some m =>
    rw [hp] at hv
    simp only [List.nil_append] at hv ⊢
    cases ht : tsB m with
    | true => rw [ht] at hv; exact hv
    | false => rw [ht] at hv; exact wk_nil _ _ _ _ _ _ hv
theorem c34 (s : List UInt8) (h : short s = true) : RetX (Γ mx) 34 [.s s] [] (.tuple [.sl 80 .any (psL s), .i .i64 (psE s)]) [] := by
  have hl := short_le h
  by_cases h0 : s = []
  · subst h0
    exact RetX.wk (ret_goes (Γ := Γ mx) (f := 34) (args := [.s []]) (obs := []) hP hZ h34_ok (by kernel_rfl) ⟨0, by rw [r34]; rfl⟩) (wk_nil _)
  · have hs0 : (s == []) = false := beq_eq_false_iff_ne.2 h0
    have h32 : s32 s = true := by unfold s32; exact decide_eq_true (by omega)
    have hn1 := spl_num 38 s
    have hn2 := spl_len 38 s
    have hgo : Goes (Γ mx) H34 34 5 ⟨[(4, .snil), (17, .sl 9 .ex ((spl 38 s).map D.str)), (18, .i .i64 ((spl 38 s).length : Int)), (19, .i .i64 0)], []⟩ (psR [] (spl 38 s), []) := by
      cases hq : spl 38 s with
      | nil => exact absurd hq (spl_ne 38 s)
      | cons p r =>
        have hp := hn2 p (by rw [hq]; simp)
        have hid : ∀ {R : Type} (K : D → Option R), idx ((p :: r).map D.str) 0 K = K (.str p) := fun K => rfl
        have hsp : s32 p = true := by unfold s32; exact decide_eq_true (by omega)
        have hd0 : decide ((0 : Int) < ((p :: r).length : Int)) = true := decide_eq_true (by simp only [List.length_cons]; omega)
        cases hc : cutE p with
        | none =>
          obtain ⟨e1, e2, e3⟩ := tc_none hc
          have hn : prP p = none := by unfold prP; rw [hc]
          refine Goes.step ⟨0, ?_⟩
          rw [r34_5a, hd0, cond_true, hid, psR_none hn]
          simp only [dStr, hsp, e1, e2, e3, short_of (show p.length ≤ 4194304 by omega), short_of (show ([] : List UInt8).length ≤ 4194304 by simp), cond_true, Bool.not_false]
        | some ab =>
          obtain ⟨a, b⟩ := ab
          obtain ⟨e1, e2, e3⟩ := tc_some hc
          have hab := cut_len hc
          have hpe := pr_eq hc
          cases hu : (unE a == 0) with
          | false =>
            rw [hu] at hpe
            refine Goes.step ⟨0, ?_⟩
            rw [r34_5a, hd0, cond_true, hid, psR_none hpe]
            simp only [dStr, hsp, e1, e2, e3, short_of (show a.length ≤ 4194304 by omega), short_of (show b.length ≤ 4194304 by omega), cond_true, Bool.not_true, cond_false, ne_beq, hu, Bool.not_false]
          | true =>
            cases hv : (unE b == 0) with
            | false =>
              rw [hu, hv] at hpe
              refine Goes.step ⟨0, ?_⟩
              rw [r34_5a, hd0, cond_true, hid, psR_none hpe]
              simp only [dStr, hsp, e1, e2, e3, short_of (show a.length ≤ 4194304 by omega), short_of (show b.length ≤ 4194304 by omega), cond_true, Bool.not_true, cond_false, ne_beq, hu, hv, Bool.not_false]
            | true =>
              rw [hu, hv] at hpe
              have hsh := pr_sh (by omega) hpe
              obtain ⟨n, hn⟩ := g34 (mx := mx) (p :: r) (by rw [← hq]; omega) (fun x hx => by have := hn2 x (by rw [hq]; exact hx); omega) r [p] [mkT (unS a) (unS b)] 1 rfl rfl (by simpa using hsh) (by simp)
              refine Goes.step ⟨n, ?_⟩
              rw [r34_5a, hd0, cond_true, hid, psR_some hpe]
              simp only [dStr, hsp, e1, e2, e3, short_of (show a.length ≤ 4194304 by omega), short_of (show b.length ≤ 4194304 by omega), cond_true, Bool.not_true, cond_false, ne_beq, hu, hv]
              exact hn
    obtain ⟨n, hn⟩ := hgo
    refine RetX.to (ret_goes (Γ := Γ mx) (f := 34) (args := [.s s]) (obs := []) hP hZ h34_ok (by kernel_rfl) ⟨n, ?_⟩) fun w S σ v hv => ps_val h0 hv
    have e : splitC 38 s = (spl 38 s).map D.str := by unfold splitC; rw [split_spl]
    rw [r34, hs0, h32, e, List.length_map]
    exact hn
/-! ### the document's Parse -/
theorem part35 (s : List UInt8) (X : AV) (O : Objs) (done : List D) (hd0' : done.length ≤ 50000000)
    (E13 : ∀ (lab : Lab) (s1 : List UInt8) (n2 : Int) (n3 : Int) (s4 : List UInt8) (n5 : Int) (n6 : Int) (n7 : Int), evL (Γ mx) H35 lab 35 13 ⟨[(0, .s s1), (4, X), (5, .i .i64 n2), (6, .i .i64 n3), (7, .s s4), (8, .i .i64 n5), (9, .i .i64 n6), (10, .i .i64 n7)], O⟩ = bif decide (n7 < ((List.length s4 : Int))) then (idx s4 n7 fun c9 => bif ((c9.toNat : Int)) == 61 then (lab (todoAt (Γ mx) 35 13) ⟨[(0, .s s1), (4, X), (5, .i .i64 n2), (6, .i .i64 n3), (7, .s s4), (8, .i .i64 n7), (9, .i .i64 (IntKind.wrap .i64 (n6 + 1))), (10, .i .i64 (IntKind.wrap .i64 (n7 + 1)))], O⟩) else (lab (todoAt (Γ mx) 35 13) ⟨[(0, .s s1), (4, X), (5, .i .i64 n2), (6, .i .i64 n3), (7, .s s4), (8, .i .i64 n5), (9, .i .i64 n6), (10, .i .i64 (IntKind.wrap .i64 (n7 + 1)))], O⟩)) else (bif n6 != 1 then (some (.tuple [.snil, .i .i64 5], [])) else (bif decide ((0:Int) ≤ n5) && decide (n5 ≤ (List.length s4 : Int)) then (bif short (List.take ((Int.toNat n5) - 0) (List.drop 0 s4)) then (bif decide ((0:Int) ≤ (IntKind.wrap .i64 (n5 + 1))) && decide ((IntKind.wrap .i64 (n5 + 1)) ≤ (List.length s4 : Int)) then (bif short (List.take ((List.length s4) - (Int.toNat (IntKind.wrap .i64 (n5 + 1)))) (List.drop (Int.toNat (IntKind.wrap .i64 (n5 + 1))) s4)) then (bif (unE (List.take ((Int.toNat n5) - 0) (List.drop 0 s4))) != 0 then (some (.tuple [.snil, .i .i64 5], [])) else (bif (unE (List.take ((List.length s4) - (Int.toNat (IntKind.wrap .i64 (n5 + 1)))) (List.drop (Int.toNat (IntKind.wrap .i64 (n5 + 1))) s4))) != 0 then (some (.tuple [.snil, .i .i64 5], [])) else (bif roomB (done.length + 1) 32 then (lab (todoAt (Γ mx) 35 6) ⟨[(0, .s s1), (4, .ref 80 0), (5, .i .i64 n2), (6, .i .i64 (IntKind.wrap .i64 (n3 + 1)))], [some (.arr 80 (done ++ [D.agg [D.str (unS (List.take ((Int.toNat n5) - 0) (List.drop 0 s4))), D.str (unS (List.take ((List.length s4) - (Int.toNat (IntKind.wrap .i64 (n5 + 1)))) (List.drop (Int.toNat (IntKind.wrap .i64 (n5 + 1))) s4)))]]) false)]⟩) else none))) else none) else none) else none) else none)))
    (fr i : Int) (hi0 : 0 ≤ i) (hi : i ≤ 100000000) (p : List UInt8) (hp : p.length ≤ 4194304) (R : AV × Objs) (hbad : prP p = none → R = (.tuple [.snil, .i .i64 5], []))
    (hgood : ∀ t, prP p = some t → Goes (Γ mx) H35 35 6 ⟨[(0, .s s), (4, .ref 80 0), (5, .i .i64 fr), (6, .i .i64 (i + 1))], [some (.arr 80 (done ++ [t]) false)]⟩ R) :
    ∀ (rest q : List UInt8) (k : Nat), p = q ++ rest → (1 ≤ q.count 61 → ∃ a b, q = a ++ 61 :: b ∧ k = a.length ∧ (61 : UInt8) ∉ b) → k ≤ q.length →
      Goes (Γ mx) H35 35 13 ⟨[(0, .s s), (4, X), (5, .i .i64 fr), (6, .i .i64 i), (7, .s p), (8, .i .i64 (k : Int)), (9, .i .i64 ((q.count 61 : Nat) : Int)), (10, .i .i64 (q.length : Int))], O⟩ R
  | [], q, k, he, hk, hkl => by
    rw [List.append_nil] at he
    subst he
    by_cases hc : p.count 61 = 1
    · obtain ⟨a, b, rfl, rfl, hb⟩ := hk (by omega)
      have ha : (61 : UInt8) ∉ a := by
        rw [List.count_append, List.count_cons_self] at hc
        exact List.count_eq_zero.1 (by omega)
      have hcut := cutE_app b ha
      have hpe := pr_eq hcut
      have hlen : (a ++ 61 :: b).length = a.length + (b.length + 1) := by simp
      have ea : List.take a.length (a ++ 61 :: b) = a := by simp
      have hw : IntKind.wrap .i64 ((a.length : Int) + 1) = ((a.length + 1 : Nat) : Int) := by rw [wrapI (by omega) (by omega)]; omega
      have eb : List.take ((a ++ 61 :: b).length - (a.length + 1)) (List.drop (a.length + 1) (a ++ 61 :: b)) = b := by
        have : List.drop (a.length + 1) (a ++ 61 :: b) = b := by rw [List.drop_append]; simp
        rw [this]
        exact List.take_of_length_le (by simp; omega)
      have d1 : decide ((0:Int) ≤ (a.length : Int)) = true := decide_eq_true (by omega)
      have d2 : decide ((a.length : Int) ≤ ((a ++ 61 :: b).length : Int)) = true := decide_eq_true (by omega)
      have d3 : decide ((0:Int) ≤ ((a.length + 1 : Nat) : Int)) = true := decide_eq_true (by omega)
      have d4 : decide (((a.length + 1 : Nat) : Int) ≤ ((a ++ 61 :: b).length : Int)) = true := decide_eq_true (by omega)
      have hc1 : (((List.count 61 (a ++ 61 :: b) : Nat) : Int) != 1) = false := by rw [hc]; rfl
      have hwi : IntKind.wrap .i64 (i + 1) = i + 1 := wrapI (by omega) (by omega)
      have hdl : decide (((a ++ 61 :: b).length : Int) < ((a ++ 61 :: b).length : Int)) = false := decide_eq_false (by omega)
      cases hu : (unE a == 0) with
      | false =>
        rw [hu] at hpe
        rw [hbad hpe]
        refine Goes.step ⟨0, ?_⟩
        rw [E13]
        simp only [hdl, cond_false, hc1, d1, d2, d3, d4, Bool.and_self, cond_true, Int.toNat_natCast, Nat.sub_zero, List.drop_zero, ea, hw, eb, short_of (show a.length ≤ 4194304 by omega), short_of (show b.length ≤ 4194304 by omega), ne_beq, hu, Bool.not_false]
      | true =>
        cases hv : (unE b == 0) with
        | false =>
          rw [hu, hv] at hpe
          rw [hbad hpe]
          refine Goes.step ⟨0, ?_⟩
          rw [E13]
          simp only [hdl, cond_false, hc1, d1, d2, d3, d4, Bool.and_self, cond_true, Int.toNat_natCast, Nat.sub_zero, List.drop_zero, ea, hw, eb, short_of (show a.length ≤ 4194304 by omega), short_of (show b.length ≤ 4194304 by omega), ne_beq, hu, hv, Bool.not_false, Bool.not_true]
        | true =>
          rw [hu, hv] at hpe
          obtain ⟨n, hn⟩ := hgood _ hpe
          refine Goes.step ⟨n, ?_⟩
          rw [E13]
          simp only [hdl, cond_false, hc1, d1, d2, d3, d4, Bool.and_self, cond_true, Int.toNat_natCast, Nat.sub_zero, List.drop_zero, ea, hw, eb, short_of (show a.length ≤ 4194304 by omega), short_of (show b.length ≤ 4194304 by omega), ne_beq, hu, hv, Bool.not_true, room32 (show done.length + 1 ≤ 100000000 by omega), hwi]
          exact hn
    · have hn := pr_count hc
      rw [hbad hn]
      refine Goes.step ⟨0, ?_⟩
      have hc1 : (((p.count 61 : Nat) : Int) != 1) = true := by simp; omega
      rw [E13, decide_eq_false (show ¬ (p.length : Int) < (p.length : Int) by omega), cond_false, hc1]; rfl
  | c :: r, q, k, he, hk, hkl => by
    have hpl : p.length = q.length + (r.length + 1) := by rw [he]; simp
    have hid : ∀ {R : Type} (K : UInt8 → Option R), idx p (q.length : Int) K = K c := fun K => by rw [he]; exact idx_mid q r c K
    have hw : IntKind.wrap .i64 ((q.length : Int) + 1) = ((q.length + 1 : Nat) : Int) := by rw [wrapI (by omega) (by omega)]; omega
    have hcl := List.count_le_length (a := (61 : UInt8)) (l := q)
    have hwc : IntKind.wrap .i64 (((q.count 61 : Nat) : Int) + 1) = ((q.count 61 + 1 : Nat) : Int) := by rw [wrapI (by omega) (by omega)]; omega
    have hd : decide ((q.length : Int) < (p.length : Int)) = true := decide_eq_true (by omega)
    by_cases hc : c = 61
    · subst hc
      obtain ⟨n, hn⟩ := part35 s X O done hd0' E13 fr i hi0 hi p hp R hbad hgood r (q ++ [61]) q.length (by rw [he]; simp) (fun _ => ⟨q, [], by simp, rfl, by simp⟩) (by simp)
      refine Goes.step ⟨n, ?_⟩
      rw [E13, hd, cond_true, hid, show (((61 : UInt8).toNat : Int) == 61) = true from rfl, cond_true, hw, hwc]
      rw [List.count_append, List.length_append] at hn
      exact hn
    · have hne : ((c.toNat : Int) == 61) = false := u8_ne (k := 61) (by omega) hc
      have hcnt : (q ++ [c]).count 61 = q.count 61 := by rw [List.count_append, List.count_cons_of_ne (by simpa using hc)]; simp
      obtain ⟨n, hn⟩ := part35 s X O done hd0' E13 fr i hi0 hi p hp R hbad hgood r (q ++ [c]) k (by rw [he]; simp) (fun h => by
        rw [hcnt] at h
        obtain ⟨a, b, rfl, rfl, hb⟩ := hk h
        exact ⟨a, b ++ [c], by simp, rfl, by simp [hb, Ne.symm hc]⟩) (by simp; omega)
      refine Goes.step ⟨n, ?_⟩
      rw [E13, hd, cond_true, hid, hne, cond_false, hw]
      rw [hcnt, List.length_append] at hn
      exact hn
theorem step35 (s : List UInt8) (hs : s.length ≤ 4194304) (X : AV) (O : Objs) (fin : Option (AV × Objs)) (done : List D) (hdl : done.length ≤ s.length) (hds : done.all shT = true)
    (E6 : ∀ (lab : Lab) (s1 : List UInt8) (n2 : Int) (n3 : Int), evL (Γ mx) H35 lab 35 6 ⟨[(0, .s s1), (4, X), (5, .i .i64 n2), (6, .i .i64 n3)], O⟩ = bif decide (n3 ≤ ((List.length s1 : Int))) then (bif decide (n3 < ((List.length s1 : Int))) then (idx s1 n3 fun c5 => bif ((c5.toNat : Int)) != 38 then (lab (todoAt (Γ mx) 35 6) ⟨[(0, .s s1), (4, X), (5, .i .i64 n2), (6, .i .i64 (IntKind.wrap .i64 (n3 + 1)))], O⟩) else (bif decide ((0:Int) ≤ n3) && decide (n3 ≤ (List.length s1 : Int)) then (bif decide ((0:Int) ≤ n2) && decide (n2 ≤ (Int.toNat n3 : Int)) then (lab (todoAt (Γ mx) 35 13) ⟨[(0, .s s1), (4, X), (5, .i .i64 (IntKind.wrap .i64 (n3 + 1))), (6, .i .i64 n3), (7, .s (List.take ((Int.toNat n3) - (Int.toNat n2)) (List.drop (Int.toNat n2) s1))), (8, .i .i64 0), (9, .i .i64 0), (10, .i .i64 0)], O⟩) else none) else none)) else (bif decide ((0:Int) ≤ n3) && decide (n3 ≤ (List.length s1 : Int)) then (bif decide ((0:Int) ≤ n2) && decide (n2 ≤ (Int.toNat n3 : Int)) then (lab (todoAt (Γ mx) 35 13) ⟨[(0, .s s1), (4, X), (5, .i .i64 (IntKind.wrap .i64 (n3 + 1))), (6, .i .i64 n3), (7, .s (List.take ((Int.toNat n3) - (Int.toNat n2)) (List.drop (Int.toNat n2) s1))), (8, .i .i64 0), (9, .i .i64 0), (10, .i .i64 0)], O⟩) else none) else none)) else fin)
    (E13 : ∀ (lab : Lab) (s1 : List UInt8) (n2 : Int) (n3 : Int) (s4 : List UInt8) (n5 : Int) (n6 : Int) (n7 : Int), evL (Γ mx) H35 lab 35 13 ⟨[(0, .s s1), (4, X), (5, .i .i64 n2), (6, .i .i64 n3), (7, .s s4), (8, .i .i64 n5), (9, .i .i64 n6), (10, .i .i64 n7)], O⟩ = bif decide (n7 < ((List.length s4 : Int))) then (idx s4 n7 fun c9 => bif ((c9.toNat : Int)) == 61 then (lab (todoAt (Γ mx) 35 13) ⟨[(0, .s s1), (4, X), (5, .i .i64 n2), (6, .i .i64 n3), (7, .s s4), (8, .i .i64 n7), (9, .i .i64 (IntKind.wrap .i64 (n6 + 1))), (10, .i .i64 (IntKind.wrap .i64 (n7 + 1)))], O⟩) else (lab (todoAt (Γ mx) 35 13) ⟨[(0, .s s1), (4, X), (5, .i .i64 n2), (6, .i .i64 n3), (7, .s s4), (8, .i .i64 n5), (9, .i .i64 n6), (10, .i .i64 (IntKind.wrap .i64 (n7 + 1)))], O⟩)) else (bif n6 != 1 then (some (.tuple [.snil, .i .i64 5], [])) else (bif decide ((0:Int) ≤ n5) && decide (n5 ≤ (List.length s4 : Int)) then (bif short (List.take ((Int.toNat n5) - 0) (List.drop 0 s4)) then (bif decide ((0:Int) ≤ (IntKind.wrap .i64 (n5 + 1))) && decide ((IntKind.wrap .i64 (n5 + 1)) ≤ (List.length s4 : Int)) then (bif short (List.take ((List.length s4) - (Int.toNat (IntKind.wrap .i64 (n5 + 1)))) (List.drop (Int.toNat (IntKind.wrap .i64 (n5 + 1))) s4)) then (bif (unE (List.take ((Int.toNat n5) - 0) (List.drop 0 s4))) != 0 then (some (.tuple [.snil, .i .i64 5], [])) else (bif (unE (List.take ((List.length s4) - (Int.toNat (IntKind.wrap .i64 (n5 + 1)))) (List.drop (Int.toNat (IntKind.wrap .i64 (n5 + 1))) s4))) != 0 then (some (.tuple [.snil, .i .i64 5], [])) else (bif roomB (done.length + 1) 32 then (lab (todoAt (Γ mx) 35 6) ⟨[(0, .s s1), (4, .ref 80 0), (5, .i .i64 n2), (6, .i .i64 (IntKind.wrap .i64 (n3 + 1)))], [some (.arr 80 (done ++ [D.agg [D.str (unS (List.take ((Int.toNat n5) - 0) (List.drop 0 s4))), D.str (unS (List.take ((List.length s4) - (Int.toNat (IntKind.wrap .i64 (n5 + 1)))) (List.drop (Int.toNat (IntKind.wrap .i64 (n5 + 1))) s4)))]]) false)]⟩) else none))) else none) else none) else none) else none))) :
    ∀ (rest cur pre : List UInt8), s = pre ++ (cur ++ rest) →
      (∀ (rest' pre' : List UInt8) (t : D), s = pre' ++ rest' → rest'.length < rest.length → pre'.length ≥ pre.length + 1 → shT t = true → Goes (Γ mx) H35 35 6 ⟨[(0, .s s), (4, .ref 80 0), (5, .i .i64 (pre'.length : Int)), (6, .i .i64 (pre'.length : Int))], [some (.arr 80 (done ++ [t]) false)]⟩ (psR (done ++ [t]) (spl 38 rest'), [])) →
      Goes (Γ mx) H35 35 6 ⟨[(0, .s s), (4, X), (5, .i .i64 (pre.length : Int)), (6, .i .i64 ((pre.length + cur.length : Nat) : Int))], O⟩ (psR done (catHd cur (spl 38 rest)), [])
  | [], cur, pre, he, hb => by
    rw [List.append_nil] at he
    have hpl : s.length = pre.length + cur.length := by rw [he]; simp
    have ecur : List.take ((pre.length + cur.length) - pre.length) (List.drop pre.length s) = cur := by
      rw [he, List.drop_left, show pre.length + cur.length - pre.length = cur.length by omega]; simp
    have hw : IntKind.wrap .i64 (((pre.length + cur.length : Nat) : Int) + 1) = ((pre.length + cur.length : Nat) : Int) + 1 := wrapI (by omega) (by omega)
    have hlst : catHd cur (spl 38 []) = [cur] := by simp [spl, catHd]
    rw [hlst]
    obtain ⟨n, hn⟩ := part35 (mx := mx) s X O done (by omega) E13 (((pre.length + cur.length : Nat) : Int) + 1) ((pre.length + cur.length : Nat) : Int) (by omega) (by omega) cur (by omega) (psR done [cur], []) (fun h => by rw [psR_none h])
      (fun t ht => Goes.step ⟨0, by
        have hsh := pr_sh (by omega) ht
        rw [psR_some ht, psR_nil, r35_6b, decide_eq_false (show ¬ ((pre.length + cur.length : Nat) : Int) + 1 ≤ (s.length : Int) by omega), cond_false, tC_of (by simp; omega) (sh_snoc hds hsh)]
        cases tsB (done ++ [t]) <;> rfl⟩) cur [] 0 rfl (fun h => by simp at h) (Nat.le_refl _)
    refine Goes.step ⟨n, ?_⟩
    have d1 : decide (((pre.length + cur.length : Nat) : Int) ≤ (s.length : Int)) = true := decide_eq_true (by omega)
    have d2 : decide (((pre.length + cur.length : Nat) : Int) < (s.length : Int)) = false := decide_eq_false (by omega)
    have d3 : decide ((0:Int) ≤ ((pre.length + cur.length : Nat) : Int)) = true := decide_eq_true (by omega)
    have d4 : decide ((0:Int) ≤ (pre.length : Int)) = true := decide_eq_true (by omega)
    have d5 : decide ((pre.length : Int) ≤ ((pre.length + cur.length : Nat) : Int)) = true := decide_eq_true (by omega)
    rw [E6]
    simp only [d1, d2, d3, d4, d5, cond_true, cond_false, Bool.and_self, Int.toNat_natCast, ecur, hw]
    exact hn
  | c :: r, cur, pre, he, hb => by
    have hpl : s.length = pre.length + cur.length + (r.length + 1) := by rw [he]; simp; omega
    have hid : ∀ {R : Type} (K : UInt8 → Option R), idx s ((pre.length + cur.length : Nat) : Int) K = K c := fun K => by
      rw [he, ← List.append_assoc]
      have := idx_mid (pre ++ cur) r c K
      rwa [List.length_append] at this
    have d1 : decide (((pre.length + cur.length : Nat) : Int) ≤ (s.length : Int)) = true := decide_eq_true (by omega)
    have d2 : decide (((pre.length + cur.length : Nat) : Int) < (s.length : Int)) = true := decide_eq_true (by omega)
    have hw : IntKind.wrap .i64 (((pre.length + cur.length : Nat) : Int) + 1) = ((pre.length + cur.length : Nat) : Int) + 1 := wrapI (by omega) (by omega)
    by_cases hc : c = 38
    · subst hc
      have ecur : List.take ((pre.length + cur.length) - pre.length) (List.drop pre.length s) = cur := by
        rw [he, List.drop_left, show pre.length + cur.length - pre.length = cur.length by omega]; simp
      have hlst : catHd cur (spl 38 (38 :: r)) = cur :: spl 38 r := by simp [spl, catHd]
      rw [hlst]
      obtain ⟨n, hn⟩ := part35 (mx := mx) s X O done (by omega) E13 (((pre.length + cur.length : Nat) : Int) + 1) ((pre.length + cur.length : Nat) : Int) (by omega) (by omega) cur (by omega) (psR done (cur :: spl 38 r), []) (fun h => by rw [psR_none h])
        (fun t ht => by
          have hsh := pr_sh (by omega) ht
          have hx := hb r (pre ++ (cur ++ [38])) t (by rw [he]; simp) (by simp) (by simp) hsh
          rw [psR_some ht]
          have hl : (((pre ++ (cur ++ [38])).length : Nat) : Int) = ((pre.length + cur.length : Nat) : Int) + 1 := by simp; omega
          rw [hl] at hx
          exact hx) cur [] 0 rfl (fun h => by simp at h) (Nat.le_refl _)
      refine Goes.step ⟨n, ?_⟩
      have d3 : decide ((0:Int) ≤ ((pre.length + cur.length : Nat) : Int)) = true := decide_eq_true (by omega)
      have d4 : decide ((0:Int) ≤ (pre.length : Int)) = true := decide_eq_true (by omega)
      have d5 : decide ((pre.length : Int) ≤ ((pre.length + cur.length : Nat) : Int)) = true := decide_eq_true (by omega)
      have h38 : (((38 : UInt8).toNat : Int) != 38) = false := rfl
      rw [E6]
      simp only [d1, d2, d3, d4, d5, cond_true, cond_false, Bool.and_self, Int.toNat_natCast, ecur, hw, hid, h38]
      exact hn
    · have hne : ((c.toNat : Int) != 38) = true := by
        have := u8_ne (k := 38) (by omega) hc
        show (!((c.toNat : Int) == 38)) = true
        rw [show ((c.toNat : Int) == 38) = false from this]; rfl
      obtain ⟨n, hn⟩ := step35 s hs X O fin done hdl hds E6 E13 r (cur ++ [c]) pre (by rw [he]; simp) (fun rest' pre' t h1 h2 h3 h4 => hb rest' pre' t h1 (by simp; omega) h3 h4)
      have hlst : catHd cur (spl 38 (c :: r)) = catHd (cur ++ [c]) (spl 38 r) := by
        rw [spl, if_neg hc, catHd_cons cur c (spl_ne 38 r)]
      rw [hlst]
      refine Goes.step ⟨n, ?_⟩
      have hl : (((pre.length + (cur ++ [c]).length : Nat)) : Int) = ((pre.length + cur.length : Nat) : Int) + 1 := by simp; omega
      rw [hl] at hn
      rw [E6]
      simp only [d1, d2, cond_true, hid, hne, hw]
      exact hn
theorem b35 (s : List UInt8) (hs : s.length ≤ 4194304) : ∀ (m : Nat) (rest pre : List UInt8) (done : List D), rest.length ≤ m → s = pre ++ rest → done.length ≤ pre.length → done.all shT = true →
    Goes (Γ mx) H35 35 6 ⟨[(0, .s s), (4, .ref 80 0), (5, .i .i64 (pre.length : Int)), (6, .i .i64 (pre.length : Int))], [some (.arr 80 done false)]⟩ (psR done (spl 38 rest), [])
  | m, rest, pre, done, hm, he, hd, hds => by
    have hpl : s.length = pre.length + rest.length := by rw [he]; simp
    have h := step35 (mx := mx) s hs (.ref 80 0) [some (.arr 80 done false)] _ done (by omega) hds (fun lab s1 n2 n3 => r35_6b lab s1 n2 n3 done) (fun lab s1 n2 n3 s4 n5 n6 n7 => r35_13b lab s1 n2 n3 s4 n5 n6 n7 done) rest [] pre (by rw [he]; rfl)
      (fun rest' pre' t h1 h2 h3 h4 => match m, hm with
        | 0, hm => absurd h2 (by omega)
        | m + 1, hm => b35 s hs m rest' pre' (done ++ [t]) (by omega) h1 (by simp; omega) (sh_snoc hds h4))
    rw [catHd_nil (spl_ne 38 rest)] at h
    exact h
theorem c35 (s : List UInt8) (h : short s = true) : RetX (Γ mx) 35 [.s s] [] (.tuple [.sl 80 .any (psL s), .i .i64 (psE s)]) [] := by
  have hl := short_le h
  by_cases h0 : s = []
  · subst h0
    exact RetX.wk (ret_goes (Γ := Γ mx) (f := 35) (args := [.s []]) (obs := []) hP hZ h35_ok (by kernel_rfl) ⟨0, by rw [r35]; rfl⟩) (wk_pair _ _ _)
  · have hs0 : (s == []) = false := beq_eq_false_iff_ne.2 h0
    have hg := step35 (mx := mx) s hl (.sl 80 .ex []) [] _ [] (by simp) rfl (fun lab s1 n2 n3 => r35_6a lab s1 [] n2 n3) (fun lab s1 n2 n3 s4 n5 n6 n7 => r35_13a lab s1 [] n2 n3 s4 n5 n6 n7) s [] [] rfl
      (fun rest' pre' t h1 h2 h3 h4 => b35 s hl rest'.length rest' pre' [t] (Nat.le_refl _) h1 (by simpa using h3) (by simpa using h4))
    rw [catHd_nil (spl_ne 38 s)] at hg
    obtain ⟨n, hn⟩ := hg
    refine RetX.to (ret_goes (Γ := Γ mx) (f := 35) (args := [.s s]) (obs := []) hP hZ h35_ok (by kernel_rfl) ⟨n, ?_⟩) fun w S σ v hv => ps_val h0 hv
    rw [r35, hs0]
    exact hn
end Go.Proofs.YtjbemleloffafaaDoor.V

/- Tags: the laws, in the machine over values. -/
namespace Go.Proofs.YtjbemleloffafaaDoor.V
open Go
set_option maxRecDepth 100000
set_option linter.unusedVariables false
set_option linter.unusedSimpArgs false
variable {mx : Int}
def Hw : Handle := runS [⟨22, dat (spL1 80 tC fun l => .tuple [.sl 80 .any (mkL l), .i .i64 (mkE l)])⟩, ⟨32, dat (spL1 80 tC fun l => .tuple [.s (txS l), .i .i64 (txE l)])⟩, ⟨29, dat (spLS 80 (fun l _ => tC l) fun l n => .tuple [.s (getS l n), .b (getB l n)])⟩, ⟨30, dat (spLL 80 80 (fun a b => tC a && tC b) fun a b => .b (withinB a b))⟩, ⟨26, dat (spL1s 80 tC fun l => .b (tsB l))⟩]
theorem hw_ok : CallsOK (Γ mx) Hw := specs_ok (.cons (spL1_ok c22) (.cons (spL1_ok c32) (.cons (spLS_ok c29) (.cons (spLL_ok c30) (.cons (spL1s_ok c26) .nil)))))
theorem awake_run8 : callN (Γ mx) Hw 3 24 [] [] = some (true, .b true, []) := by kernel_rfl
theorem c24 (_ : true = true) : RetX (Γ mx) 24 [] [] (.b true) [] := ret_run hP hZ hN hw_ok awake_run8
/-! ### sizes -/
theorem tC_nil : tC [] = true := rfl
theorem tC_mk {l : List D} (h : tC l = true) : tC (mkL l) = true := by
  unfold mkL
  cases mkE l == 0 with
  | true => exact tC_srt h
  | false => rfl
theorem tC_mg {a b : List D} (ha : tC a = true) (hb : tC b = true) : tC (mgL a b) = true := by
  cases h : tsB a && tsB b with
  | false => rw [(mg_no h).2]; rfl
  | true =>
    rw [(mg_yes h).2]
    simp only [Bool.and_eq_true] at h
    have h1 := ts_len h.1
    have h2 := ts_len h.2
    have h3 := new_len a b
    exact tC_mk (tC_app (by omega) (tC_eq hb).2 (List.all_eq_true.2 fun d hd => List.all_eq_true.1 (tC_eq ha).2 d (List.mem_filter.1 hd).1))
theorem prL_sh : ∀ {q : List (List UInt8)} {l : List D}, (∀ p ∈ q, p.length ≤ 4194304) → prL q = some l → l.all shT = true
  | [], l, _, h => by rw [prL] at h; cases h; rfl
  | p :: q, l, hs, h => by
    rw [prL] at h
    cases hp : prP p with
    | none => rw [hp] at h; exact absurd h (by simp)
    | some t =>
      rw [hp] at h
      simp only at h
      cases hq : prL q with
      | none => rw [hq] at h; exact absurd h (by simp)
      | some m =>
        rw [hq] at h
        simp only [Option.map_some, Option.some.injEq] at h
        subst h
        rw [List.all_cons, pr_sh (hs p (by simp)) hp, prL_sh (fun x hx => hs x (by simp [hx])) hq]; rfl
theorem tC_ps {s : List UInt8} (h : short s = true) : tC (psL s) = true := by
  have hl := short_le h
  unfold psL
  cases s == [] with
  | true => rfl
  | false =>
    rw [cond_false]
    cases hp : prL (spl 38 s) with
    | none => rfl
    | some m =>
      simp only
      cases ht : tsB m with
      | false => rfl
      | true => exact tC_of (by have := ts_len ht; rw [cond_true]; omega) (prL_sh (fun p hp => by have := spl_len 38 s p hp; omega) hp)
theorem short_tx (l : List D) : short (txS l) = true := by
  unfold txS
  cases h : tsB l with
  | false => rfl
  | true =>
    have h1 := joinT_len (ts_good h)
    have h2 := ts_len h
    exact short_of (by rw [cond_true]; omega)
/-! ### the laws -/
theorem h7_ok : CallsOK (Γ mx) H7 := specs_ok (.cons (spL1_ok c22) (.cons (spL1_ok c23) (.cons (sp0_ok c24) (.cons (spLL_ok c25) (.cons (spL1s_ok c26) (.cons (spL1s_ok c27) .nil))))))
theorem law7 (l : List D) (h : tC l = true) : RetX (Γ mx) 7 [.sl 80 .any l] [] (.b true) [] := by
  refine ret_goes (Γ := Γ mx) hP hZ h7_ok (by kernel_rfl) ⟨0, ?_⟩
  rw [r7, h, tC_mk h, same_self]
  simp
theorem h8_ok : CallsOK (Γ mx) H8 := specs_ok (.cons (spLL_ok c28) (.cons (sp0_ok c24) (.cons (spLS_ok c29) (.cons (spLL_ok c30) (.cons (spL1s_ok c26) (.cons (spLL_ok c31) .nil))))))
theorem mg_fail {a b : List D} (h : (mgE a b == 0) = false) : mgL a b = [] := by
  cases h0 : tsB a && tsB b with
  | false => exact (mg_no h0).2
  | true =>
    rw [(mg_yes h0).1] at h
    rw [(mg_yes h0).2]
    unfold mkL; rw [h]; rfl
theorem law8 (a b : List D) (n : List UInt8) (ha : tC a = true) (hb : tC b = true) : RetX (Γ mx) 8 [.sl 80 .any a, .sl 80 .any b, .s n] [] (.b true) [] := by
  refine ret_goes (Γ := Γ mx) hP hZ h8_ok (by kernel_rfl) ⟨0, ?_⟩
  have hm := tC_mg ha hb
  rw [r8, ha, hb, hm]
  simp only [Bool.and_self, cond_true, ne_beq]
  cases h0 : (mgE a b == 0) with
  | false => rw [mg_fail h0]; rfl
  | true =>
    have M := merged (eq_of_beq h0)
    obtain ⟨e1, e2⟩ := M.get n
    have hm2 := tC_mg hm hb
    rw [e1, e2, M.within, M.sound, M.again.1, M.again.2, same_self, hm]
    cases getB b n with
    | true => simp
    | false => simp
theorem h9_ok : CallsOK (Γ mx) H9 := specs_ok (.cons (spL1_ok c32) (.cons (spL1_ok c33) (.cons (sp1_ok c34) (.cons (sp1_ok c35) (.cons (sp0_ok c24) (.cons (spLL_ok c25) .nil))))))
theorem law9 (l : List D) (s : List UInt8) (h : tC l = true) (hs : short s = true) : RetX (Γ mx) 9 [.sl 80 .any l, .s s] [] (.b true) [] := by
  refine ret_goes (Γ := Γ mx) hP hZ h9_ok (by kernel_rfl) ⟨0, ?_⟩
  rw [r9, h, hs, tC_ps hs, same_self]
  simp
theorem h10_ok : CallsOK (Γ mx) H10 := specs_ok (.cons (spL1_ok c32) (.cons (sp1_ok c34) (.cons (sp0_ok c24) (.cons (spLL_ok c25) .nil))))
theorem law10 (l : List D) (s : List UInt8) (h : tC l = true) (hs : short s = true) : RetX (Γ mx) 10 [.sl 80 .any l, .s s] [] (.b true) [] := by
  refine ret_goes (Γ := Γ mx) hP hZ h10_ok (by kernel_rfl) ⟨0, ?_⟩
  rw [r10, h, hs, short_tx, tC_ps hs, tC_ps (short_tx l)]
  simp only [Bool.and_self, cond_true, ne_beq]
  have hB : (bif !(psE s == 0) then some (AV.b true, ([] : Objs)) else (bif txE (psL s) == 0 then some (AV.b (txS (psL s) == s), []) else some (AV.b false, []))) = some (AV.b true, []) := by
    cases h0 : (psE s == 0) with
    | false => rfl
    | true =>
      obtain ⟨e1, e2⟩ := written_read (eq_of_beq h0)
      rw [e1, e2]; simp
  rw [hB]
  cases ht : tsB l with
  | false =>
    have : txE l = 2 := by unfold txE; rw [ht]; rfl
    rw [this]; rfl
  | true =>
    have : txE l = 0 := by unfold txE; rw [ht]; rfl
    obtain ⟨e1, e2⟩ := read_written (sh_all (tC_eq h).2) ht
    rw [this, e1, e2, same_self]; rfl
end Go.Proofs.YtjbemleloffafaaDoor.V

/- Rules, objects, versions: what the functions come to; what the law of later moments says. No program in sight. -/
namespace Go.Proofs.YtjbemleloffafaaDoor.V
open Go
set_option maxRecDepth 100000
set_option linter.unusedVariables false
set_option linter.unusedSimpArgs false
/-! ### versions -/
structure Ver where
  id : Int
  mr : Bool
  sz : Int
  bl : Int
  dg : List D
  cr : Int
  md : Int
  un : Int
  ho : Bool
  c : Cp
  tg : List D
def lkV (v : Ver) : D := .agg [.int .i64 v.md, .int .i64 v.un, .bool v.ho]
def vD (v : Ver) : D := .agg [.int .u64 v.id, .bool v.mr, .int .i64 v.sz, .int .u64 v.bl, .agg v.dg, .int .i64 v.cr, .agg [.int .i64 v.md, .int .i64 v.un, .bool v.ho], .slice v.c v.tg]
def vOf : D → Option Ver
  | .agg [.int .u64 id, .bool mk, .int .i64 sz, .int .u64 bl, .agg dg, .int .i64 cr, .agg [.int .i64 md, .int .i64 un, .bool ho], .slice c tg] => some ⟨id, mk, sz, bl, dg, cr, md, un, ho, c, tg⟩
  | _ => none
theorem vOf_vD (v : Ver) : vOf (vD v) = some v := rfl
theorem vOf_eq {d : D} {v : Ver} (h : vOf d = some v) : d = vD v := by
  unfold vOf at h
  split at h
  · cases h; rfl
  · exact absurd h (by simp)
def vC (d : D) : Bool := match vOf d with | some v => tC v.tg | none => false
theorem vC_ex {d : D} (h : vC d = true) : ∃ v, d = vD v ∧ tC v.tg = true := by
  unfold vC at h
  cases hv : vOf d with
  | none => rw [hv] at h; exact absurd h (by simp)
  | some v => rw [hv] at h; exact ⟨v, vOf_eq hv, h⟩
def isLk : D → Bool
  | .agg [.int .i64 _, .int .i64 _, .bool _] => true
  | _ => false
theorem isLk_ex {d : D} (h : isLk d = true) : ∃ a b c, d = .agg [.int .i64 a, .int .i64 b, .bool c] := by
  unfold isLk at h
  split at h
  · exact ⟨_, _, _, rfl⟩
  · exact absurd h (by simp)
def bindsD : D → Int → Bool
  | .agg [.int _ md, .int _ un, .bool _], t => md != 0 && decide (t < un)
  | _, _ => false
def heldD : D → Int → Bool
  | .agg [.int k md, .int k' un, .bool ho], t => ho || bindsD (.agg [.int k md, .int k' un, .bool ho]) t
  | _, _ => false
def clampZ (t : Int) : Int := bif decide (((-62135596800) : Int) < (bif decide ((253402300799 : Int) < t) then 253402300799 else t)) then bif decide ((253402300799 : Int) < t) then 253402300799 else t else ((-62135596800))
def lkB : D → Bool
  | .agg [.int _ md, .int _ un, .bool _] => bif md == 0 then un == 0 else bif md == 1 then un == clampZ un else bif md == 2 then un == clampZ un else false
  | _ => false
def dg0 : D := .agg [D.int .u8 0, D.int .u8 0, D.int .u8 0, D.int .u8 0, D.int .u8 0, D.int .u8 0, D.int .u8 0, D.int .u8 0, D.int .u8 0, D.int .u8 0, D.int .u8 0, D.int .u8 0, D.int .u8 0, D.int .u8 0, D.int .u8 0, D.int .u8 0, D.int .u8 0, D.int .u8 0, D.int .u8 0, D.int .u8 0, D.int .u8 0, D.int .u8 0, D.int .u8 0, D.int .u8 0, D.int .u8 0, D.int .u8 0, D.int .u8 0, D.int .u8 0, D.int .u8 0, D.int .u8 0, D.int .u8 0, D.int .u8 0]
def lk0 : D := .agg [.int .i64 0, .int .i64 0, .bool false]
def goodV (v : Ver) : Bool := bif v.id == 0 then false else bif v.cr != clampZ v.cr then false else
  bif v.mr then v.sz == 0 && (v.bl == 0 && (eqD (.agg v.dg) dg0 && (eqD (lkV v) lk0 && ((v.tg.length : Int) == 0))))
  else decide (v.sz ≥ 0) && (decide (v.sz ≤ 16384) && (decide (v.bl > 0) && (lkB (lkV v) && tsB v.tg)))
def vGood (d : D) : Bool := match vOf d with | some v => goodV v | none => false
def behV (v p : Ver) : Bool := decide (v.id > p.id) && decide (v.cr ≥ p.cr)
def behD (d e : D) : Bool := match vOf d, vOf e with | some v, some p => behV v p | _, _ => false
def ris1 : Option Ver → List Ver → Bool
  | _, [] => true
  | none, v :: r => goodV v && ris1 (some v) r
  | some p, v :: r => goodV v && (behV v p && ris1 (some v) r)
def vsC (l : List D) : Bool := decide (l.length ≤ 8388608) && l.all vC
def vsOf (l : List D) : List Ver := l.filterMap vOf
def risB (l : List D) : Bool := ris1 none (vsOf l)
theorem vs_ex : ∀ {l : List D}, l.all vC = true → ∃ vs : List Ver, l = vs.map vD ∧ vsOf l = vs
  | [], _ => ⟨[], rfl, rfl⟩
  | d :: r, h => by
    have h : vC d = true ∧ r.all vC = true := by simpa using h
    obtain ⟨v, rfl, _⟩ := vC_ex h.1
    obtain ⟨vs, h1, h2⟩ := vs_ex h.2
    refine ⟨v :: vs, by rw [h1]; rfl, ?_⟩
    unfold vsOf at h2 ⊢
    rw [List.filterMap_cons, vOf_vD]
    simp only
    rw [h2]
/-! ### objects -/
def keyB (s : List UInt8) : Bool := !(s == []) && (decide (s.length ≤ 200) && cleanV s)
def oKey : D → List UInt8
  | .agg [.str k, .slice _ _] => k
  | _ => []
def oVs : D → List D
  | .agg [.str _, .slice _ l] => l
  | _ => []
def oC : D → Bool
  | .agg [.str k, .slice _ l] => short k && vsC l
  | _ => false
theorem oC_ex {d : D} (h : oC d = true) : ∃ k c l, d = .agg [.str k, .slice c l] ∧ short k = true ∧ vsC l = true := by
  unfold oC at h
  split at h
  · simp only [Bool.and_eq_true] at h; exact ⟨_, _, _, rfl, h.1, h.2⟩
  · exact absurd h (by simp)
def oSnd (o : D) : Bool := keyB (oKey o) && (decide (0 < (oVs o).length) && risB (oVs o))
def cloneD (d : D) : D := match vOf d with | some v => vD { v with c := .cl } | none => d
def v0 : D := .agg [.int .u64 0, .bool false, .int .i64 0, .int .u64 0, dg0, .int .i64 0, lk0, .slice .nl []]
def latD (o : D) : D := bif oSnd o then cloneD ((oVs o).getD ((oVs o).length - 1) v0) else v0
def latE (o : D) : Int := bif oSnd o then 0 else 2
def vIs (d : D) (i : Int) : Bool := match vOf d with | some v => v.id == i | none => false
def plN : List D → Int → Int → Int
  | [], _, _ => -1
  | d :: r, i, k => bif vIs d i then k else plN r i (k + 1)
def plI (l : List D) (i : Int) : Int := plN l i 0
def plO (o : D) (i : Int) : Int := plI (oVs o) i
def vCr (d : D) : Int := match vOf d with | some v => v.cr | none => 0
def replB (o : D) (i : Int) : Bool := oSnd o && (!decide (plO o i < 0) && !(plO o i == ((oVs o).length : Int) - 1))
def replT (o : D) (i : Int) : Int := bif replB o i then vCr ((oVs o).getD (plO o i + 1).toNat v0) else 0
/-! ### rules -/
def rC : D → Bool
  | .agg [.str p, .slice _ t, .int .i64 _, .int .i64 _, .bool _] => short p && tC t
  | _ => false
theorem rC_ex {d : D} (h : rC d = true) : ∃ p c t a b m, d = .agg [.str p, .slice c t, .int .i64 a, .int .i64 b, .bool m] ∧ short p = true ∧ tC t = true := by
  unfold rC at h
  split at h
  · simp only [Bool.and_eq_true] at h; exact ⟨_, _, _, _, _, _, rfl, h.1, h.2⟩
  · exact absurd h (by simp)
def rGood : D → Bool
  | .agg [.str p, .slice _ t, .int .i64 a, .int .i64 b, .bool _] => decide (p.length ≤ 200) && (cleanV p && (tsB t && (decide (a ≥ 0) && (decide (a ≤ 36500) && (decide (b ≥ 0) && decide (b ≤ 36500))))))
  | _ => false
def rsC (l : List D) : Bool := decide (l.length ≤ 8388608) && l.all rC
def rsA (l : List D) : Bool := l.all rGood
def rsB (l : List D) : Bool := decide (l.length ≤ 8) && rsA l
def rsN : List D → Int → Int
  | [], _ => -1
  | r :: l, k => bif rGood r then rsN l (k + 1) else k
def rsI (l : List D) : Int := rsN l 0
theorem rsN_all : ∀ (l : List D) (k : Int), 0 ≤ k → decide (rsN l k ≥ 0) = !rsA l
  | [], k, h => rfl
  | r :: l, k, h => by
    rw [rsN]
    unfold rsA
    rw [List.all_cons]
    cases rGood r with
    | true => rw [cond_true, Bool.true_and]; exact rsN_all l (k + 1) (by omega)
    | false => rw [cond_false, Bool.false_and]; exact decide_eq_true h
def hpB (s p : List UInt8) : Bool := decide (p.length ≤ s.length) && (s.take p.length == p)
def vTg (d : D) : List D := match vOf d with | some v => v.tg | none => []
def rPre : D → List UInt8
  | .agg [.str p, .slice _ _, .int _ _, .int _ _, .bool _] => p
  | _ => []
def rTg : D → List D
  | .agg [.str _, .slice _ t, .int _ _, .int _ _, .bool _] => t
  | _ => []
def rDays : D → Int
  | .agg [.str _, .slice _ _, .int _ a, .int _ _, .bool _] => a
  | _ => 0
def rOld : D → Int
  | .agg [.str _, .slice _ _, .int _ _, .int _ b, .bool _] => b
  | _ => 0
def rMk : D → Bool
  | .agg [.str _, .slice _ _, .int _ _, .int _ _, .bool m] => m
  | _ => false
def meantD (r o : D) : Bool := latE o == 0 && (hpB (oKey o) (rPre r) && withinB (rTg r) (vTg (latD o)))
/-! ### events -/
def evD (t id : Int) (lk : D) : D := .agg [.int .i64 t, .int .u64 id, lk]
def addD (a b : Int) : Int := IntKind.wrap .i64 (a + IntKind.wrap .i64 (b * 86400))
/-- what a rule does to a version -/
def ev1 (o : D) (v : Ver) (r : D) : List D := bif !meantD r o then [] else bif replB o v.id && decide (rOld r > 0) then [evD (addD (replT o v.id) (rOld r)) v.id (lkV v)]
  else bif !replB o v.id && (v.mr && (rMk r && ((oVs o).length : Int) == 1)) then [evD (-62135596800) v.id (lkV v)] else []
def evV (rl : List D) (o : D) (v : Ver) : List D := rl.flatMap (ev1 o v)
def ev2 (o : D) (v : Ver) (r : D) : List D := bif meantD r o && (decide (rDays r > 0) && !v.mr) then [evD (addD v.cr (rDays r)) 0 lk0] else []
def newV (o : D) : Ver := ((vsOf (oVs o)).getLast?).getD ⟨0, false, 0, 0, [], 0, 0, 0, false, .nl, []⟩
def evsL (rl : List D) (o : D) : List D := (vsOf (oVs o)).flatMap (evV rl o) ++ rl.flatMap (ev2 o (newV o))
def evT : D → Int
  | .agg [.int _ t, .int _ _, _] => t
  | _ => 0
def evI : D → Int
  | .agg [.int _ _, .int _ i, _] => i
  | _ => 0
def evK : D → D
  | .agg [.int _ _, .int _ _, l] => l
  | _ => .agg []
def isDue (t : Int) (x : D) : Bool := !(decide (t < evT x) || heldD (evK x) t)
def dueF (E : List D) (t : Int) : Option D := E.find? (isDue t)
def goodB (rl : List D) (o : D) : Bool := rsB rl && oSnd o
def dueI (rl : List D) (o : D) (t : Int) : Int := bif goodB rl o then (match dueF (evsL rl o) t with | some x => evI x | none => 0) else 0
def dueM (rl : List D) (o : D) (t : Int) : Bool := bif goodB rl o then (match dueF (evsL rl o) t with | some x => evI x == 0 | none => false) else false
def dueE (rl : List D) (o : D) : Int := bif goodB rl o then 0 else 2
/-! ### the law -/
/-- held, as the law asks it -/
def heldL (v : Ver) (t : Int) : Bool := v.ho || (v.md != 0 && decide (t < v.un))
theorem held_lk (v : Ver) (t : Int) : heldD (lkV v) t = heldL v t := rfl
theorem ris_good : ∀ {l : List Ver} {o : Option Ver}, ris1 o l = true → ∀ v ∈ l, goodV v = true
  | [], _, _, v, hv => by cases hv
  | w :: r, o, h, v, hv => by
    have hh : goodV w = true ∧ ris1 (some w) r = true := by
      cases o with
      | none => simp only [ris1, Bool.and_eq_true] at h; exact h
      | some p => simp only [ris1, Bool.and_eq_true] at h; exact ⟨h.1, h.2.2⟩
    rcases List.mem_cons.1 hv with rfl | hv
    · exact hh.1
    · exact ris_good hh.2 v hv
theorem ris_lt : ∀ {l : List Ver} {p : Ver}, ris1 (some p) l = true → ∀ v ∈ l, p.id < v.id
  | [], _, _, v, hv => by cases hv
  | w :: r, p, h, v, hv => by
    simp only [ris1, behV, Bool.and_eq_true, decide_eq_true_eq] at h
    rcases List.mem_cons.1 hv with rfl | hv
    · exact h.2.1.1
    · have := ris_lt h.2.2 v hv; omega
theorem ris_pw : ∀ {l : List Ver} {o : Option Ver}, ris1 o l = true → l.Pairwise fun a b => a.id < b.id
  | [], _, _ => .nil
  | w :: r, o, h => by
    have hh : ris1 (some w) r = true := by
      cases o with
      | none => simp only [ris1, Bool.and_eq_true] at h; exact h.2
      | some p => simp only [ris1, Bool.and_eq_true] at h; exact h.2.2
    exact List.pairwise_cons.2 ⟨fun v hv => ris_lt hh v hv, ris_pw hh⟩
theorem good_id {v : Ver} (h : goodV v = true) : v.id ≠ 0 := by
  intro e
  unfold goodV at h
  rw [e] at h
  exact absurd h (by simp)
theorem ris_uniq {l : List Ver} (h : l.Pairwise fun a b => a.id < b.id) : ∀ a ∈ l, ∀ b ∈ l, a.id = b.id → a = b := by
  induction l with
  | nil => intro a ha; cases ha
  | cons x r ih =>
    have hc := List.pairwise_cons.1 h
    intro a ha b hb e
    rcases List.mem_cons.1 ha with ea | ha' <;> rcases List.mem_cons.1 hb with eb | hb'
    · rw [ea, eb]
    · have := hc.1 b hb'; rw [ea] at e; omega
    · have := hc.1 a ha'; rw [eb] at e; omega
    · exact ih hc.2 a ha' b hb' e
theorem mem_evV {rl : List D} {o : D} {v : Ver} {x : D} (h : x ∈ evV rl o v) : evI x = v.id ∧ evK x = lkV v := by
  unfold evV at h
  obtain ⟨r, _, h⟩ := List.mem_flatMap.1 h
  unfold ev1 at h
  cases hm : meantD r o with
  | false => rw [hm] at h; cases h
  | true =>
    rw [hm] at h
    cases h1 : replB o v.id && decide (rOld r > 0) with
    | true => rw [h1] at h; simp only [Bool.not_true, cond_false, cond_true, List.mem_singleton] at h; subst h; exact ⟨rfl, rfl⟩
    | false =>
      rw [h1] at h
      cases h2 : !replB o v.id && (v.mr && (rMk r && ((oVs o).length : Int) == 1)) with
      | true => rw [h2] at h; simp only [Bool.not_true, cond_false, cond_true, List.mem_singleton] at h; subst h; exact ⟨rfl, rfl⟩
      | false => rw [h2] at h; cases h
theorem mem_ev2 {rl : List D} {o : D} {v : Ver} {x : D} (h : x ∈ rl.flatMap (ev2 o v)) : evI x = 0 := by
  obtain ⟨r, _, h⟩ := List.mem_flatMap.1 h
  unfold ev2 at h
  cases h1 : meantD r o && (decide (rDays r > 0) && !v.mr) with
  | true => rw [h1] at h; simp only [cond_true, List.mem_singleton] at h; subst h; rfl
  | false => rw [h1] at h; cases h
/-- the events' numbers: those of versions, rising; then none -/
def Rise (E : List D) : Prop := E.Pairwise fun x y => evI y = 0 ∨ (evI x ≠ 0 ∧ evI x ≤ evI y)
theorem rise_all {rl : List D} {o : D} (h : risB (oVs o) = true) : Rise (evsL rl o) := by
  unfold Rise evsL
  have hp := ris_pw h
  have hg := ris_good h
  have h1 : ∀ vs : List Ver, (∀ v ∈ vs, goodV v = true) → vs.Pairwise (fun a b => a.id < b.id) → (vs.flatMap (evV rl o)).Pairwise fun x y => evI y = 0 ∨ (evI x ≠ 0 ∧ evI x ≤ evI y) := by
    intro vs
    induction vs with
    | nil => intro _ _; exact .nil
    | cons v r ih =>
      intro hg hp
      have hc := List.pairwise_cons.1 hp
      rw [List.flatMap_cons]
      refine List.pairwise_append.2 ⟨?_, ih (fun w hw => hg w (by simp [hw])) hc.2, ?_⟩
      · have hv := good_id (hg v (by simp))
        refine List.Pairwise.imp_of_mem (R := fun _ _ => True) ?_ (List.pairwise_of_forall fun _ _ => trivial)
        intro x y hx hy _
        rw [(mem_evV hx).1, (mem_evV hy).1]
        exact .inr ⟨hv, Int.le_refl _⟩
      · intro x hx y hy
        obtain ⟨w, hw, hy⟩ := List.mem_flatMap.1 hy
        rw [(mem_evV hx).1, (mem_evV hy).1]
        have := hc.1 w hw
        exact .inr ⟨good_id (hg v (by simp)), by omega⟩
  refine List.pairwise_append.2 ⟨h1 _ hg hp, ?_, ?_⟩
  · refine List.Pairwise.imp_of_mem (R := fun _ _ => True) ?_ (List.pairwise_of_forall fun _ _ => trivial)
    intro x y _ hy _
    exact .inl (mem_ev2 hy)
  · intro x _ y hy
    exact .inl (mem_ev2 hy)
theorem due_later {t u : Int} (h : t ≤ u) {x : D} (hl : ∃ a b c, evK x = .agg [.int .i64 a, .int .i64 b, .bool c]) (hx : isDue t x = true) : isDue u x = true := by
  obtain ⟨a, b, c, e⟩ := hl
  unfold isDue at hx ⊢
  rw [e] at hx ⊢
  simp only [heldD, bindsD, Bool.not_eq_true', Bool.or_eq_false_iff, decide_eq_false_iff_not, Bool.and_eq_false_iff] at hx ⊢
  refine ⟨by omega, hx.2.1, ?_⟩
  rcases hx.2.2 with h1 | h1
  · exact .inl h1
  · exact .inr (by omega)
theorem due_mono {E : List D} {t u : Int} (h : t ≤ u) (hl : ∀ x ∈ E, ∃ a b c, evK x = .agg [.int .i64 a, .int .i64 b, .bool c]) (hr : Rise E) {x : D} (hx : dueF E t = some x) : ∃ y, dueF E u = some y ∧ (y = x ∨ evI x = 0 ∨ (evI y ≠ 0 ∧ evI y ≤ evI x)) := by
  unfold Rise at hr
  induction E with
  | nil => simp [dueF] at hx
  | cons z E ih =>
    unfold dueF at hx ⊢
    rw [List.find?_cons] at hx ⊢
    have hc := List.pairwise_cons.1 hr
    cases hz : isDue t z with
    | true =>
      rw [hz] at hx
      have ez : z = x := Option.some.inj hx
      rw [due_later h (hl z (by simp)) hz]
      exact ⟨z, rfl, .inl ez⟩
    | false =>
      rw [hz] at hx
      cases hu : isDue u z with
      | true =>
        have hm := List.mem_of_find?_eq_some hx
        refine ⟨z, rfl, ?_⟩
        rcases hc.1 x hm with h1 | h1
        · exact .inr (.inl h1)
        · exact .inr (.inr h1)
      | false => exact ih (fun x hx => hl x (by simp [hx])) hc.2 hx
theorem lk_all (rl : List D) (o : D) : ∀ x ∈ evsL rl o, ∃ a b c, evK x = .agg [.int .i64 a, .int .i64 b, .bool c] := by
  intro x hx
  unfold evsL at hx
  rcases List.mem_append.1 hx with hx | hx
  · obtain ⟨v, _, hx⟩ := List.mem_flatMap.1 hx
    rw [(mem_evV hx).2]
    exact ⟨_, _, _, rfl⟩
  · obtain ⟨r, _, hx⟩ := List.mem_flatMap.1 hx
    unfold ev2 at hx
    cases h1 : meantD r o && (decide (rDays r > 0) && !(newV o).mr) with
    | true => rw [h1] at hx; simp only [cond_true, List.mem_singleton] at hx; subst hx; exact ⟨_, _, _, rfl⟩
    | false => rw [h1] at hx; cases hx
theorem snd_ris {o : D} (h : oSnd o = true) : risB (oVs o) = true := by
  unfold oSnd at h
  simp only [Bool.and_eq_true] at h
  exact h.2.2
/-- what is due is not held -/
theorem due_free {rl : List D} {o : D} {t : Int} (hg : goodB rl o = true) : ∀ v ∈ vsOf (oVs o), v.id = dueI rl o t → heldL v t = false := by
  intro v hv e
  have hs : oSnd o = true := by unfold goodB at hg; simp only [Bool.and_eq_true] at hg; exact hg.2
  have hr := snd_ris hs
  have hv0 := good_id (ris_good hr v hv)
  unfold dueI at e
  rw [hg, cond_true] at e
  cases hd : dueF (evsL rl o) t with
  | none => rw [hd] at e; exact absurd e hv0
  | some x =>
    rw [hd] at e
    simp only at e
    have hx := List.mem_of_find?_eq_some hd
    have hdue := List.find?_some hd
    unfold evsL at hx
    rcases List.mem_append.1 hx with hx | hx
    · obtain ⟨w, hw, hx⟩ := List.mem_flatMap.1 hx
      obtain ⟨h1, h2⟩ := mem_evV hx
      have : v = w := ris_uniq (ris_pw hr) v hv w hw (e.trans h1)
      subst this
      unfold isDue at hdue
      rw [h2, held_lk] at hdue
      simp only [Bool.not_eq_true', Bool.or_eq_false_iff] at hdue
      exact hdue.2
    · rw [mem_ev2 hx] at e; exact absurd e hv0
theorem due_law {rl : List D} {o : D} {t u : Int} (hg : goodB rl o = true) (h : t ≤ u) :
    (dueI rl o t ≠ 0 → dueI rl o u ≠ 0 ∧ dueI rl o u ≤ dueI rl o t) ∧ (dueI rl o t = 0 → dueM rl o t = true → dueM rl o u = true ∨ dueI rl o u ≠ 0) := by
  have hs : oSnd o = true := by unfold goodB at hg; simp only [Bool.and_eq_true] at hg; exact hg.2
  have hr := rise_all (rl := rl) (snd_ris hs)
  unfold dueI dueM
  rw [hg]
  simp only [cond_true]
  cases hd : dueF (evsL rl o) t with
  | none => exact ⟨fun h0 => absurd rfl h0, fun _ h0 => by cases h0⟩
  | some x =>
    obtain ⟨y, hy, hyx⟩ := due_mono h (lk_all rl o) hr hd
    rw [hy]
    simp only
    refine ⟨fun h0 => ?_, fun _ _ => ?_⟩
    · rcases hyx with rfl | h1 | h1
      · exact ⟨h0, Int.le_refl _⟩
      · exact absurd h1 h0
      · exact h1
    · by_cases h2 : evI y = 0
      · rw [h2]; exact .inl rfl
      · exact .inr h2
end Go.Proofs.YtjbemleloffafaaDoor.V
