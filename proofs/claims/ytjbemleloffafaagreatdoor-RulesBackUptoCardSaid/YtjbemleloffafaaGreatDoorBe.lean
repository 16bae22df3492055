/- RuB, RuC, RuD, RuE, RuS, RuT, RuU, RuV, RuK: texts of this claim, put together in build order by program. -/
import Derived.Test.YtjbemleloffafaaGreatDoorBd
/- Rules: what the machine over values makes of the functions: equations, written by program. -/
namespace Go.Proofs.YtjbemleloffafaaGreatDoor.V
open Go
set_option maxRecDepth 100000
set_option linter.unusedVariables false
set_option linter.unusedSimpArgs false
def spDt (u : TypeId) (c : D → Bool) (f : D → Int → AV) : List AV → Option (Bool × AV)
  | [.d t x, .i .i64 n] => some (Nat.beq t u && c x, f x n)
  | _ => none
def spDu (u : TypeId) (c : D → Bool) (f : D → Int → AV) : List AV → Option (Bool × AV)
  | [.d t x, .i .u64 n] => some (Nat.beq t u && c x, f x n)
  | _ => none
def spClamp : List AV → Option (Bool × AV)
  | [.i .i64 n] => some (true, .i .i64 (clampZ n))
  | _ => none
def spLD (u v : TypeId) (c : List D → D → Bool) (f : List D → D → AV) : List AV → Option (Bool × AV)
  | [.sl t _ l, .d s x] => some (Nat.beq t u && (Nat.beq s v && c l x), f l x)
  | _ => none
def spLDt (u v : TypeId) (c : List D → D → Bool) (f : List D → D → Int → AV) : List AV → Option (Bool × AV)
  | [.sl t _ l, .d s x, .i .i64 n] => some (Nat.beq t u && (Nat.beq s v && c l x), f l x n)
  | _ => none
def xIs : List AV → Objs → Option (Bool × AV × Objs)
  | [.d t x, .ptr 0 [] s], [some (.box b (.i .u64 i))] => some (Nat.beq t 54 && (Nat.beq s 29 && (Nat.beq b 29 && vC x)), .b (vIs x i), [some (.box 29 (.i .u64 i))])
  | _, _ => none
def xPl : List AV → Objs → Option (Bool × AV × Objs)
  | [.sl t _ l, .fn g [.ptr 0 [] s]], [some (.box b (.i .u64 i))] => some (Nat.beq t 54 && (Nat.beq g 98 && (Nat.beq s 29 && (Nat.beq b 29 && vsC l))), .i .i64 (plI l i), [some (.box 29 (.i .u64 i))])
  | _, _ => none
variable {mx : Int}
theorem r90 (call : Handle) (lab : Lab) (md : Int) (un : Int) (ho : Bool) (t : Int) : evF (Γ mx) call lab 77 [.d 45 (D.agg [D.int .i64 md, D.int .i64 un, D.bool ho]), .i .i64 t] [] =
  bif md != 0 then (some (.b (decide (t < un)), [])) else (some (.b false, [])) := by kernel_rfl
def H63 : Handle := runS [⟨77, dat (spDt 45 isLk fun l t => .b (bindsD l t))⟩]
theorem r63 (lab : Lab) (md : Int) (un : Int) (ho : Bool) (t : Int) : evF (Γ mx) H63 lab 50 [.d 45 (D.agg [D.int .i64 md, D.int .i64 un, D.bool ho]), .i .i64 t] [] =
  bif ho then (some (.b true, [])) else (bif isLk (D.agg [D.int .i64 md, D.int .i64 un, D.bool ho]) then (some (.b (bindsD (D.agg [D.int .i64 md, D.int .i64 un, D.bool ho]) t), [])) else none) := by kernel_rfl
theorem r156 (call : Handle) (lab : Lab) (t : Int) : evF (Γ mx) call lab 119 [.i .i64 t] [] =
  some (.i .i64 (bif decide (((-62135596800) : Int) < (bif decide ((253402300799 : Int) < t) then 253402300799 else t)) then bif decide ((253402300799 : Int) < t) then 253402300799 else t else ((-62135596800))), []) := by kernel_rfl
def H157 : Handle := runS [⟨119, dat spClamp⟩]
theorem r157 (lab : Lab) (md : Int) (un : Int) (ho : Bool) : evF (Γ mx) H157 lab 120 [.d 45 (D.agg [D.int .i64 md, D.int .i64 un, D.bool ho])] [] =
  bif md == 0 then (some (.b (un == 0), [])) else (bif md == 1 then (bif md == 1 then (some (.b (un == (clampZ un)), [])) else (some (.b false, []))) else (bif md == 2 then (some (.b (un == (clampZ un)), [])) else (some (.b false, [])))) := by kernel_rfl
def H145 : Handle := runS [⟨119, dat spClamp⟩, ⟨120, dat (spD1 45 isLk fun l => .b (lkB l))⟩, ⟨55, dat (spL1s 84 tC fun l => .b (tsB l))⟩]
theorem r145 (lab : Lab) (vid : Int) (vmk : Bool) (vsz : Int) (vbl : Int) (vdg : List D) (vcr : Int) (vmd : Int) (vun : Int) (vho : Bool) (vc : Cp) (vtg : List D) : evF (Γ mx) H145 lab 95 [.d 54 (D.agg [D.int .u64 vid, D.bool vmk, D.int .i64 vsz, D.int .u64 vbl, D.agg vdg, D.int .i64 vcr, D.agg [D.int .i64 vmd, D.int .i64 vun, D.bool vho], D.slice vc vtg])] [] =
  bif vid == 0 then (some (.b false, [])) else (bif vcr != (clampZ vcr) then (some (.b false, [])) else (bif vmk then (bif vsz == 0 then (bif vbl == 0 then (bif eqD (D.agg vdg) (D.agg [D.int .u8 0, D.int .u8 0, D.int .u8 0, D.int .u8 0, D.int .u8 0, D.int .u8 0, D.int .u8 0, D.int .u8 0, D.int .u8 0, D.int .u8 0, D.int .u8 0, D.int .u8 0, D.int .u8 0, D.int .u8 0, D.int .u8 0, D.int .u8 0, D.int .u8 0, D.int .u8 0, D.int .u8 0, D.int .u8 0, D.int .u8 0, D.int .u8 0, D.int .u8 0, D.int .u8 0, D.int .u8 0, D.int .u8 0, D.int .u8 0, D.int .u8 0, D.int .u8 0, D.int .u8 0, D.int .u8 0, D.int .u8 0]) then (bif eqD (D.agg [D.int .i64 vmd, D.int .i64 vun, D.bool vho]) (D.agg [D.int .i64 0, D.int .i64 0, D.bool false]) then (some (.b (((vtg.length : Int)) == 0), [])) else (some (.b false, []))) else (some (.b false, []))) else (some (.b false, []))) else (some (.b false, []))) else (bif decide (vsz ≥ 0) then (bif decide (vsz ≤ 16384) then (bif decide (vbl > 0) then (bif isLk (D.agg [D.int .i64 vmd, D.int .i64 vun, D.bool vho]) then (bif lkB (D.agg [D.int .i64 vmd, D.int .i64 vun, D.bool vho]) then (bif tC vtg then (some (.b (tsB vtg), [])) else none) else (some (.b false, []))) else none) else (some (.b false, []))) else (some (.b false, []))) else (some (.b false, []))))) := by kernel_rfl
theorem r146 (call : Handle) (lab : Lab) (vid : Int) (vmk : Bool) (vsz : Int) (vbl : Int) (vdg : List D) (vcr : Int) (vmd : Int) (vun : Int) (vho : Bool) (vc : Cp) (vtg : List D) (uid : Int) (umk : Bool) (usz : Int) (ubl : Int) (udg : List D) (ucr : Int) (umd : Int) (uun : Int) (uho : Bool) (uc : Cp) (utg : List D) : evF (Γ mx) call lab 96 [.d 54 (D.agg [D.int .u64 vid, D.bool vmk, D.int .i64 vsz, D.int .u64 vbl, D.agg vdg, D.int .i64 vcr, D.agg [D.int .i64 vmd, D.int .i64 vun, D.bool vho], D.slice vc vtg]), .d 54 (D.agg [D.int .u64 uid, D.bool umk, D.int .i64 usz, D.int .u64 ubl, D.agg udg, D.int .i64 ucr, D.agg [D.int .i64 umd, D.int .i64 uun, D.bool uho], D.slice uc utg])] [] =
  bif decide (vid > uid) then (some (.b (decide (vcr ≥ ucr)), [])) else (some (.b false, [])) := by kernel_rfl
def H122 : Handle := runS [⟨95, dat (spD1 54 vC fun v => .b (vGood v))⟩, ⟨96, dat (spDD 54 54 (fun a b => vC a && vC b) fun a b => .b (behD a b))⟩]
theorem r122 (lab : Lab) (l : List D) : evF (Γ mx) H122 lab 72 [.sl 54 .any l] [] =
  lab (todoAt (Γ mx) 72 2) ⟨[(0, .sl 54 .any l), (5, .sl 54 .any l), (6, .i .i64 ((l.length : Int))), (7, .i .i64 0)], []⟩ := by kernel_rfl
theorem r122_2a (lab : Lab) (l1 : List D) (l2 : List D) (n3 : Int) (n4 : Int) : evL (Γ mx) H122 lab 72 2 ⟨[(0, .sl 54 .any l1), (5, .sl 54 .any l2), (6, .i .i64 n3), (7, .i .i64 n4)], []⟩ =
  bif decide (n4 < n3) then (idx l2 n4 fun y5 => dAgg y5 fun y6 => lCons y6 fun a7 r8 => dInt .u64 a7 fun n9 => lCons r8 fun a10 r11 => dBool a10 fun b12 => lCons r11 fun a13 r14 => dInt .i64 a13 fun n15 => lCons r14 fun a16 r17 => dInt .u64 a16 fun n18 => lCons r17 fun a19 r20 => dAgg a19 fun y21 => lCons r20 fun a22 r23 => dInt .i64 a22 fun n24 => lCons r23 fun a25 r26 => dAgg a25 fun y27 => lCons y27 fun a28 r29 => dInt .i64 a28 fun n30 => lCons r29 fun a31 r32 => dInt .i64 a31 fun n33 => lCons r32 fun a34 r35 => dBool a34 fun b36 => lNil r35 (lCons r26 fun a37 r38 => dSlice a37 fun c39 l40 => lNil r38 (bif vC (D.agg [D.int .u64 n9, D.bool b12, D.int .i64 n15, D.int .u64 n18, D.agg y21, D.int .i64 n24, D.agg [D.int .i64 n30, D.int .i64 n33, D.bool b36], D.slice c39 l40]) then (bif !(vGood (D.agg [D.int .u64 n9, D.bool b12, D.int .i64 n15, D.int .u64 n18, D.agg y21, D.int .i64 n24, D.agg [D.int .i64 n30, D.int .i64 n33, D.bool b36], D.slice c39 l40])) then (some (.b false, [])) else (bif decide (n4 > 0) then (idx l1 (IntKind.wrap .i64 (n4 - 1)) fun y41 => dAgg y41 fun y42 => lCons y42 fun a43 r44 => dInt .u64 a43 fun n45 => lCons r44 fun a46 r47 => dBool a46 fun b48 => lCons r47 fun a49 r50 => dInt .i64 a49 fun n51 => lCons r50 fun a52 r53 => dInt .u64 a52 fun n54 => lCons r53 fun a55 r56 => dAgg a55 fun y57 => lCons r56 fun a58 r59 => dInt .i64 a58 fun n60 => lCons r59 fun a61 r62 => dAgg a61 fun y63 => lCons y63 fun a64 r65 => dInt .i64 a64 fun n66 => lCons r65 fun a67 r68 => dInt .i64 a67 fun n69 => lCons r68 fun a70 r71 => dBool a70 fun b72 => lNil r71 (lCons r62 fun a73 r74 => dSlice a73 fun c75 l76 => lNil r74 (bif vC (D.agg [D.int .u64 n9, D.bool b12, D.int .i64 n15, D.int .u64 n18, D.agg y21, D.int .i64 n24, D.agg [D.int .i64 n30, D.int .i64 n33, D.bool b36], D.slice c39 l40]) && vC (D.agg [D.int .u64 n45, D.bool b48, D.int .i64 n51, D.int .u64 n54, D.agg y57, D.int .i64 n60, D.agg [D.int .i64 n66, D.int .i64 n69, D.bool b72], D.slice c75 l76]) then (bif !(behD (D.agg [D.int .u64 n9, D.bool b12, D.int .i64 n15, D.int .u64 n18, D.agg y21, D.int .i64 n24, D.agg [D.int .i64 n30, D.int .i64 n33, D.bool b36], D.slice c39 l40]) (D.agg [D.int .u64 n45, D.bool b48, D.int .i64 n51, D.int .u64 n54, D.agg y57, D.int .i64 n60, D.agg [D.int .i64 n66, D.int .i64 n69, D.bool b72], D.slice c75 l76])) then (some (.b false, [])) else (lab (todoAt (Γ mx) 72 2) ⟨[(0, .sl 54 .any l1), (5, .sl 54 .any l2), (6, .i .i64 n3), (7, .i .i64 (IntKind.wrap .i64 (n4 + 1)))], []⟩)) else none))) else (lab (todoAt (Γ mx) 72 2) ⟨[(0, .sl 54 .any l1), (5, .sl 54 .any l2), (6, .i .i64 n3), (7, .i .i64 (IntKind.wrap .i64 (n4 + 1)))], []⟩))) else none))) else (some (.b true, [])) := by kernel_rfl
def H121 : Handle := runS [⟨54, dat (sp1 short fun p => .b (cleanV p))⟩]
theorem r121 (lab : Lab) (s : List UInt8) : evF (Γ mx) H121 lab 71 [.s s] [] =
  bif !(s == ([] : List UInt8)) then (bif decide (((List.length s : Int)) ≤ 200) then (bif short s then (some (.b (cleanV s), [])) else none) else (some (.b false, []))) else (some (.b false, [])) := by kernel_rfl
def H88 : Handle := runS [⟨71, dat (sp1 short fun s => .b (keyB s))⟩, ⟨72, dat (spL1 54 vsC fun l => .b (risB l))⟩]
theorem r88 (lab : Lab) (ok : List UInt8) (oc : Cp) (ov : List D) : evF (Γ mx) H88 lab 42 [.d 24 (D.agg [D.str ok, D.slice oc ov])] [] =
  bif short ok then (bif keyB ok then (bif decide (((ov.length : Int)) > 0) then (bif vsC ov then (some (.b (risB ov), [])) else none) else (some (.b false, []))) else (some (.b false, []))) else none := by kernel_rfl
theorem r128 (call : Handle) (lab : Lab) (s : List UInt8) (p : List UInt8) : evF (Γ mx) call lab 79 [.s s, .s p] [] =
  bif decide (((List.length s : Int)) ≥ ((List.length p : Int))) then (bif decide ((0:Int) ≤ ((List.length p : Int))) && decide (((List.length p : Int)) ≤ (List.length s : Int)) then (some (.b ((List.take ((Int.toNat ((List.length p : Int))) - 0) (List.drop 0 s)) == p), [])) else none) else (some (.b false, [])) := by kernel_rfl
def H95 : Handle := runS [⟨79, dat (sp2 (fun _ _ => true) fun a b => .b (hpB a b))⟩]
theorem r95 (lab : Lab) (s : List UInt8) (p : List UInt8) : evF (Γ mx) H95 lab 52 [.s s, .s p] [] =
  some (.b (hpB s p), []) := by kernel_rfl
def H93 : Handle := runS [⟨54, dat (sp1 short fun p => .b (cleanV p))⟩, ⟨55, dat (spL1s 84 tC fun l => .b (tsB l))⟩]
theorem r93 (lab : Lab) (rp : List UInt8) (rc : Cp) (rt : List D) (rd : Int) (ro : Int) (rm : Bool) : evF (Γ mx) H93 lab 22 [.d 35 (D.agg [D.str rp, D.slice rc rt, D.int .i64 rd, D.int .i64 ro, D.bool rm])] [] =
  bif decide (((List.length rp : Int)) ≤ 200) then (bif short rp then (bif cleanV rp then (bif tC rt then (bif tsB rt then (bif decide (rd ≥ 0) then (bif decide (rd ≤ 36500) then (bif decide (ro ≥ 0) then (some (.b (decide (ro ≤ 36500)), [])) else (some (.b false, []))) else (some (.b false, []))) else (some (.b false, []))) else (some (.b false, []))) else none) else (some (.b false, []))) else none) else (some (.b false, [])) := by kernel_rfl
def H120 : Handle := runS [⟨22, dat (spD1 35 rC fun r => .b (rGood r))⟩]
theorem r120 (lab : Lab) (rp : List UInt8) (rc : Cp) (rt : List D) (rd : Int) (ro : Int) (rm : Bool) : evF (Γ mx) H120 lab 70 [.d 35 (D.agg [D.str rp, D.slice rc rt, D.int .i64 rd, D.int .i64 ro, D.bool rm])] [] =
  bif rC (D.agg [D.str rp, D.slice rc rt, D.int .i64 rd, D.int .i64 ro, D.bool rm]) then (some (.b (!(rGood (D.agg [D.str rp, D.slice rc rt, D.int .i64 rd, D.int .i64 ro, D.bool rm]))), [])) else none := by kernel_rfl
def H144 : Handle := runS [⟨70, dat (spD1 35 rC fun r => .b (!rGood r))⟩]
theorem r144 (lab : Lab) (l : List D) : evF (Γ mx) H144 lab 94 [.sl 35 .any l, .fn 70 []] [] =
  lab (todoAt (Γ mx) 94 2) ⟨[(0, .sl 35 .any l), (1, .fn 70 []), (7, .i .i64 ((l.length : Int))), (8, .i .i64 0)], []⟩ := by kernel_rfl
theorem r144_2a (lab : Lab) (l1 : List D) (n2 : Int) (n3 : Int) : evL (Γ mx) H144 lab 94 2 ⟨[(0, .sl 35 .any l1), (1, .fn 70 []), (7, .i .i64 n2), (8, .i .i64 n3)], []⟩ =
  bif decide (n3 < n2) then (idx l1 n3 fun y4 => dAgg y4 fun y5 => lCons y5 fun a6 r7 => dStr a6 fun s8 => lCons r7 fun a9 r10 => dSlice a9 fun c11 l12 => lCons r10 fun a13 r14 => dInt .i64 a13 fun n15 => lCons r14 fun a16 r17 => dInt .i64 a16 fun n18 => lCons r17 fun a19 r20 => dBool a19 fun b21 => lNil r20 (bif rC (D.agg [D.str s8, D.slice c11 l12, D.int .i64 n15, D.int .i64 n18, D.bool b21]) then (bif !rGood (D.agg [D.str s8, D.slice c11 l12, D.int .i64 n15, D.int .i64 n18, D.bool b21]) then (some (.i .i64 n3, [])) else (lab (todoAt (Γ mx) 94 2) ⟨[(0, .sl 35 .any l1), (1, .fn 70 []), (7, .i .i64 n2), (8, .i .i64 (IntKind.wrap .i64 (n3 + 1)))], []⟩)) else none)) else (some (.i .i64 (-1), [])) := by kernel_rfl
def H119 : Handle := runS [⟨94, dat (spLF 35 70 rsC fun l => .i .i64 (rsI l))⟩]
theorem r119 (lab : Lab) (l : List D) : evF (Γ mx) H119 lab 69 [.sl 35 .any l, .fn 70 []] [] =
  bif rsC l then (some (.b (decide ((rsI l) ≥ 0)), [])) else none := by kernel_rfl
def H87 : Handle := runS [⟨69, dat (spLF 35 70 rsC fun l => .b (!rsA l))⟩]
theorem r87 (lab : Lab) (l : List D) : evF (Γ mx) H87 lab 41 [.sl 35 .any l] [] =
  bif decide (((l.length : Int)) ≤ 8) then (bif rsC l then (some (.b (!(!rsA l)), [])) else none) else (some (.b false, [])) := by kernel_rfl
def H152 : Handle := runS [⟨122, xClone⟩, ⟨121, dat (spL1 84 (fun _ => true) fun l => .sl 84 .cl l)⟩]
theorem r152 (lab : Lab) (x : D) (r : List D) : evF (Γ mx) H152 lab 101 [.sl 84 .any ((x :: r))] [] =
  bif tC ((x :: r)) then (some (.sl 84 .cl ((((x :: r)))), [])) else none := by kernel_rfl
theorem nr152 (lab : Lab) : evF (Γ mx) H152 lab 101 [.sl 84 .any []] [] =
  some (.sl 84 .cl (([])), []) := by kernel_rfl
def H127 : Handle := runS [⟨101, dat (spL1 84 tC fun l => .sl 84 .cl l)⟩]
theorem r127 (lab : Lab) (vid : Int) (vmk : Bool) (vsz : Int) (vbl : Int) (vdg : List D) (vcr : Int) (vmd : Int) (vun : Int) (vho : Bool) (vc : Cp) (vtg : List D) : evF (Γ mx) H127 lab 78 [.d 54 (D.agg [D.int .u64 vid, D.bool vmk, D.int .i64 vsz, D.int .u64 vbl, D.agg vdg, D.int .i64 vcr, D.agg [D.int .i64 vmd, D.int .i64 vun, D.bool vho], D.slice vc vtg])] [] =
  bif tC vtg then (some (.d 54 (D.agg [D.int .u64 vid, D.bool vmk, D.int .i64 vsz, D.int .u64 vbl, D.agg vdg, D.int .i64 vcr, D.agg [D.int .i64 vmd, D.int .i64 vun, D.bool vho], D.slice .cl vtg]), [])) else none := by kernel_rfl
def H94 : Handle := runS [⟨42, dat (spD1 24 oC fun o => .b (oSnd o))⟩, ⟨78, dat (spD1 54 vC fun v => .d 54 (cloneD v))⟩]
theorem r94 (lab : Lab) (ok : List UInt8) (oc : Cp) (ov : List D) : evF (Γ mx) H94 lab 51 [.d 24 (D.agg [D.str ok, D.slice oc ov])] [] =
  bif oC (D.agg [D.str ok, D.slice oc ov]) then (bif !(oSnd (D.agg [D.str ok, D.slice oc ov])) then (some (.tuple [.d 54 (D.agg [D.int .u64 0, D.bool false, D.int .i64 0, D.int .u64 0, D.agg [D.int .u8 0, D.int .u8 0, D.int .u8 0, D.int .u8 0, D.int .u8 0, D.int .u8 0, D.int .u8 0, D.int .u8 0, D.int .u8 0, D.int .u8 0, D.int .u8 0, D.int .u8 0, D.int .u8 0, D.int .u8 0, D.int .u8 0, D.int .u8 0, D.int .u8 0, D.int .u8 0, D.int .u8 0, D.int .u8 0, D.int .u8 0, D.int .u8 0, D.int .u8 0, D.int .u8 0, D.int .u8 0, D.int .u8 0, D.int .u8 0, D.int .u8 0, D.int .u8 0, D.int .u8 0, D.int .u8 0, D.int .u8 0], D.int .i64 0, D.agg [D.int .i64 0, D.int .i64 0, D.bool false], D.slice .nl []]), .i .i64 2], [])) else (idx ov (IntKind.wrap .i64 (((ov.length : Int)) - 1)) fun y1 => dAgg y1 fun y2 => lCons y2 fun a3 r4 => dInt .u64 a3 fun n5 => lCons r4 fun a6 r7 => dBool a6 fun b8 => lCons r7 fun a9 r10 => dInt .i64 a9 fun n11 => lCons r10 fun a12 r13 => dInt .u64 a12 fun n14 => lCons r13 fun a15 r16 => dAgg a15 fun y17 => lCons r16 fun a18 r19 => dInt .i64 a18 fun n20 => lCons r19 fun a21 r22 => dAgg a21 fun y23 => lCons y23 fun a24 r25 => dInt .i64 a24 fun n26 => lCons r25 fun a27 r28 => dInt .i64 a27 fun n29 => lCons r28 fun a30 r31 => dBool a30 fun b32 => lNil r31 (lCons r22 fun a33 r34 => dSlice a33 fun c35 l36 => lNil r34 (bif vC (D.agg [D.int .u64 n5, D.bool b8, D.int .i64 n11, D.int .u64 n14, D.agg y17, D.int .i64 n20, D.agg [D.int .i64 n26, D.int .i64 n29, D.bool b32], D.slice c35 l36]) then (dAgg ((cloneD (D.agg [D.int .u64 n5, D.bool b8, D.int .i64 n11, D.int .u64 n14, D.agg y17, D.int .i64 n20, D.agg [D.int .i64 n26, D.int .i64 n29, D.bool b32], D.slice c35 l36]))) fun y37 => lCons y37 fun a38 r39 => dInt .u64 a38 fun n40 => lCons r39 fun a41 r42 => dBool a41 fun b43 => lCons r42 fun a44 r45 => dInt .i64 a44 fun n46 => lCons r45 fun a47 r48 => dInt .u64 a47 fun n49 => lCons r48 fun a50 r51 => dAgg a50 fun y52 => lCons r51 fun a53 r54 => dInt .i64 a53 fun n55 => lCons r54 fun a56 r57 => dAgg a56 fun y58 => lCons y58 fun a59 r60 => dInt .i64 a59 fun n61 => lCons r60 fun a62 r63 => dInt .i64 a62 fun n64 => lCons r63 fun a65 r66 => dBool a65 fun b67 => lNil r66 (lCons r57 fun a68 r69 => dSlice a68 fun c70 l71 => lNil r69 (some (.tuple [.d 54 (D.agg [D.int .u64 n40, D.bool b43, D.int .i64 n46, D.int .u64 n49, D.agg y52, D.int .i64 n55, D.agg [D.int .i64 n61, D.int .i64 n64, D.bool b67], D.slice c70 l71]), .i .i64 0], [])))) else none)))) else none := by kernel_rfl
def H65 : Handle := runS [⟨51, dat (spD1 24 oC fun o => .tuple [.d 54 (latD o), .i .i64 (latE o)])⟩, ⟨52, dat (sp2 (fun _ _ => true) fun a b => .b (hpB a b))⟩, ⟨53, dat (spLL 84 84 (fun a b => tC a && tC b) fun a b => .b (withinB a b))⟩]
theorem r65 (lab : Lab) (rp : List UInt8) (rc : Cp) (rt : List D) (rd : Int) (ro : Int) (rm : Bool) (ok : List UInt8) (oc : Cp) (ov : List D) : evF (Γ mx) H65 lab 21 [.d 35 (D.agg [D.str rp, D.slice rc rt, D.int .i64 rd, D.int .i64 ro, D.bool rm]), .d 24 (D.agg [D.str ok, D.slice oc ov])] [] =
  bif oC (D.agg [D.str ok, D.slice oc ov]) then (dAgg ((latD (D.agg [D.str ok, D.slice oc ov]))) fun y1 => lCons y1 fun a2 r3 => dInt .u64 a2 fun n4 => lCons r3 fun a5 r6 => dBool a5 fun b7 => lCons r6 fun a8 r9 => dInt .i64 a8 fun n10 => lCons r9 fun a11 r12 => dInt .u64 a11 fun n13 => lCons r12 fun a14 r15 => dAgg a14 fun y16 => lCons r15 fun a17 r18 => dInt .i64 a17 fun n19 => lCons r18 fun a20 r21 => dAgg a20 fun y22 => lCons y22 fun a23 r24 => dInt .i64 a23 fun n25 => lCons r24 fun a26 r27 => dInt .i64 a26 fun n28 => lCons r27 fun a29 r30 => dBool a29 fun b31 => lNil r30 (lCons r21 fun a32 r33 => dSlice a32 fun c34 l35 => lNil r33 (bif (latE (D.agg [D.str ok, D.slice oc ov])) == 0 then (bif hpB ok rp then (bif tC rt && tC l35 then (some (.b (withinB rt l35), [])) else none) else (some (.b false, []))) else (some (.b false, []))))) else none := by kernel_rfl
theorem r148 (call : Handle) (lab : Lab) (vid : Int) (vmk : Bool) (vsz : Int) (vbl : Int) (vdg : List D) (vcr : Int) (vmd : Int) (vun : Int) (vho : Bool) (vc : Cp) (vtg : List D) (i : Int) : evF (Γ mx) call lab 98 [.d 54 (D.agg [D.int .u64 vid, D.bool vmk, D.int .i64 vsz, D.int .u64 vbl, D.agg vdg, D.int .i64 vcr, D.agg [D.int .i64 vmd, D.int .i64 vun, D.bool vho], D.slice vc vtg]), .ptr 0 [] 29] [some (.box 29 (.i .u64 i))] =
  some (.b (vid == i), [some (.box 29 (.i .u64 i))]) := by kernel_rfl
def H147 : Handle := runS [⟨98, xIs⟩]
theorem r147 (lab : Lab) (l : List D) (i : Int) : evF (Γ mx) H147 lab 97 [.sl 54 .any l, .fn 98 [.ptr 0 [] 29]] [some (.box 29 (.i .u64 i))] =
  lab (todoAt (Γ mx) 97 2) ⟨[(0, .sl 54 .any l), (1, .fn 98 [.ptr 0 [] 29]), (7, .i .i64 ((l.length : Int))), (8, .i .i64 0)], [some (.box 29 (.i .u64 i))]⟩ := by kernel_rfl
theorem r147_2a (lab : Lab) (l1 : List D) (n2 : Int) (n3 : Int) (n4 : Int) : evL (Γ mx) H147 lab 97 2 ⟨[(0, .sl 54 .any l1), (1, .fn 98 [.ptr 0 [] 29]), (7, .i .i64 n2), (8, .i .i64 n3)], [some (.box 29 (.i .u64 n4))]⟩ =
  bif decide (n3 < n2) then (idx l1 n3 fun y5 => dAgg y5 fun y6 => lCons y6 fun a7 r8 => dInt .u64 a7 fun n9 => lCons r8 fun a10 r11 => dBool a10 fun b12 => lCons r11 fun a13 r14 => dInt .i64 a13 fun n15 => lCons r14 fun a16 r17 => dInt .u64 a16 fun n18 => lCons r17 fun a19 r20 => dAgg a19 fun y21 => lCons r20 fun a22 r23 => dInt .i64 a22 fun n24 => lCons r23 fun a25 r26 => dAgg a25 fun y27 => lCons y27 fun a28 r29 => dInt .i64 a28 fun n30 => lCons r29 fun a31 r32 => dInt .i64 a31 fun n33 => lCons r32 fun a34 r35 => dBool a34 fun b36 => lNil r35 (lCons r26 fun a37 r38 => dSlice a37 fun c39 l40 => lNil r38 (bif true && vC (D.agg [D.int .u64 n9, D.bool b12, D.int .i64 n15, D.int .u64 n18, D.agg y21, D.int .i64 n24, D.agg [D.int .i64 n30, D.int .i64 n33, D.bool b36], D.slice c39 l40]) then (bif vIs (D.agg [D.int .u64 n9, D.bool b12, D.int .i64 n15, D.int .u64 n18, D.agg y21, D.int .i64 n24, D.agg [D.int .i64 n30, D.int .i64 n33, D.bool b36], D.slice c39 l40]) n4 then (some (.i .i64 n3, [some (.box 29 (.i .u64 n4))])) else (lab (todoAt (Γ mx) 97 2) ⟨[(0, .sl 54 .any l1), (1, .fn 98 [.ptr 0 [] 29]), (7, .i .i64 n2), (8, .i .i64 (IntKind.wrap .i64 (n3 + 1)))], [some (.box 29 (.i .u64 n4))]⟩)) else none))) else (some (.i .i64 (-1), [some (.box 29 (.i .u64 n4))])) := by kernel_rfl
def H123 : Handle := runS [⟨97, xPl⟩]
theorem r123 (lab : Lab) (ok : List UInt8) (oc : Cp) (ov : List D) (i : Int) : evF (Γ mx) H123 lab 73 [.d 24 (D.agg [D.str ok, D.slice oc ov]), .i .u64 i] [] =
  bif vsC ov then (some (.i .i64 (plI ov i), [])) else none := by kernel_rfl
def H89 : Handle := runS [⟨42, dat (spD1 24 oC fun o => .b (oSnd o))⟩, ⟨73, dat (spDu 24 oC fun o i => .i .i64 (plO o i))⟩]
theorem r89 (lab : Lab) (ok : List UInt8) (oc : Cp) (ov : List D) (i : Int) : evF (Γ mx) H89 lab 43 [.d 24 (D.agg [D.str ok, D.slice oc ov]), .i .u64 i] [] =
  bif oC (D.agg [D.str ok, D.slice oc ov]) then (bif !(oSnd (D.agg [D.str ok, D.slice oc ov])) then (some (.tuple [.i .i64 0, .b false], [])) else (bif oC (D.agg [D.str ok, D.slice oc ov]) then (bif decide ((plO (D.agg [D.str ok, D.slice oc ov]) i) < 0) then (some (.tuple [.i .i64 0, .b false], [])) else (bif (plO (D.agg [D.str ok, D.slice oc ov]) i) == (IntKind.wrap .i64 (((ov.length : Int)) - 1)) then (some (.tuple [.i .i64 0, .b false], [])) else (idx ov (IntKind.wrap .i64 ((plO (D.agg [D.str ok, D.slice oc ov]) i) + 1)) fun y1 => dAgg y1 fun y2 => lGet y2 5 fun y3 => dInt .i64 y3 fun n4 => some (.tuple [.i .i64 n4, .b true], [])))) else none)) else none := by kernel_rfl
def H61 : Handle := runS [⟨41, dat (spL1 35 rsC fun l => .b (rsB l))⟩, ⟨42, dat (spD1 24 oC fun o => .b (oSnd o))⟩]
theorem r61 (lab : Lab) (l : List D) (ok : List UInt8) (oc : Cp) (ov : List D) : evF (Γ mx) H61 lab 14 [.sl 35 .any l, .d 24 (D.agg [D.str ok, D.slice oc ov])] [] =
  bif rsC l then (bif rsB l then (bif oC (D.agg [D.str ok, D.slice oc ov]) then (some (.b (oSnd (D.agg [D.str ok, D.slice oc ov])), [])) else none) else (some (.b false, []))) else none := by kernel_rfl
def H62 : Handle := runS [⟨21, dat (spDD 35 24 (fun r o => rC r && oC o) fun r o => .b (meantD r o))⟩, ⟨43, dat (spDu 24 oC fun o i => .tuple [.i .i64 (replT o i), .b (replB o i)])⟩]
theorem r62 (lab : Lab) (l : List D) (ok : List UInt8) (oc : Cp) (ov : List D) : evF (Γ mx) H62 lab 15 [.sl 35 .any l, .d 24 (D.agg [D.str ok, D.slice oc ov])] [] =
  idx ov (IntKind.wrap .i64 (((ov.length : Int)) - 1)) fun y1 => dAgg y1 fun y2 => lCons y2 fun a3 r4 => dInt .u64 a3 fun n5 => lCons r4 fun a6 r7 => dBool a6 fun b8 => lCons r7 fun a9 r10 => dInt .i64 a9 fun n11 => lCons r10 fun a12 r13 => dInt .u64 a12 fun n14 => lCons r13 fun a15 r16 => dAgg a15 fun y17 => lCons r16 fun a18 r19 => dInt .i64 a18 fun n20 => lCons r19 fun a21 r22 => dAgg a21 fun y23 => lCons y23 fun a24 r25 => dInt .i64 a24 fun n26 => lCons r25 fun a27 r28 => dInt .i64 a27 fun n29 => lCons r28 fun a30 r31 => dBool a30 fun b32 => lNil r31 (lCons r22 fun a33 r34 => dSlice a33 fun c35 l36 => lNil r34 (lab (todoAt (Γ mx) 15 4) ⟨[(0, .sl 35 .any l), (3, .ptr 0 [] 24), (5, .snil), (6, .ptr 1 [] 54), (24, .sl 54 oc ov), (25, .i .i64 ((ov.length : Int))), (26, .i .i64 0)], [some (.box 24 (.d 24 (D.agg [D.str ok, D.slice oc ov]))), some (.box 54 (.d 54 (D.agg [D.int .u64 n5, D.bool b8, D.int .i64 n11, D.int .u64 n14, D.agg y17, D.int .i64 n20, D.agg [D.int .i64 n26, D.int .i64 n29, D.bool b32], D.slice c35 l36])))]⟩)) := by kernel_rfl
theorem r62_4a (lab : Lab) (l1 : List D) (c2 : Cp) (l3 : List D) (n4 : Int) (n5 : Int) (s6 : List UInt8) (c7 : Cp) (l8 : List D) (n9 : Int) (b10 : Bool) (n11 : Int) (n12 : Int) (y13 : List D) (n14 : Int) (n15 : Int) (n16 : Int) (b17 : Bool) (c18 : Cp) (l19 : List D) : evL (Γ mx) H62 lab 15 4 ⟨[(0, .sl 35 .any l1), (3, .ptr 0 [] 24), (5, .snil), (6, .ptr 1 [] 54), (24, .sl 54 c2 l3), (25, .i .i64 n4), (26, .i .i64 n5)], [some (.box 24 (.d 24 (D.agg [D.str s6, D.slice c7 l8]))), some (.box 54 (.d 54 (D.agg [D.int .u64 n9, D.bool b10, D.int .i64 n11, D.int .u64 n12, D.agg y13, D.int .i64 n14, D.agg [D.int .i64 n15, D.int .i64 n16, D.bool b17], D.slice c18 l19])))]⟩ =
  bif decide (n5 < n4) then (idx l3 n5 fun y20 => dAgg y20 fun y21 => lCons y21 fun a22 r23 => dInt .u64 a22 fun n24 => lCons r23 fun a25 r26 => dBool a25 fun b27 => lCons r26 fun a28 r29 => dInt .i64 a28 fun n30 => lCons r29 fun a31 r32 => dInt .u64 a31 fun n33 => lCons r32 fun a34 r35 => dAgg a34 fun y36 => lCons r35 fun a37 r38 => dInt .i64 a37 fun n39 => lCons r38 fun a40 r41 => dAgg a40 fun y42 => lCons y42 fun a43 r44 => dInt .i64 a43 fun n45 => lCons r44 fun a46 r47 => dInt .i64 a46 fun n48 => lCons r47 fun a49 r50 => dBool a49 fun b51 => lNil r50 (lCons r41 fun a52 r53 => dSlice a52 fun c54 l55 => lNil r53 (bif oC (D.agg [D.str s6, D.slice c7 l8]) then (lab (todoAt (Γ mx) 15 8) ⟨[(0, .sl 35 .any l1), (3, .ptr 0 [] 24), (5, .snil), (6, .ptr 1 [] 54), (8, .ptr 2 [] 54), (9, .i .i64 (replT (D.agg [D.str s6, D.slice c7 l8]) n24)), (10, .b (replB (D.agg [D.str s6, D.slice c7 l8]) n24)), (24, .sl 54 c2 l3), (25, .i .i64 n4), (26, .i .i64 n5), (37, .sl 35 .any l1), (38, .i .i64 ((l1.length : Int))), (39, .i .i64 0)], [some (.box 24 (.d 24 (D.agg [D.str s6, D.slice c7 l8]))), some (.box 54 (.d 54 (D.agg [D.int .u64 n9, D.bool b10, D.int .i64 n11, D.int .u64 n12, D.agg y13, D.int .i64 n14, D.agg [D.int .i64 n15, D.int .i64 n16, D.bool b17], D.slice c18 l19]))), some (.box 54 (.d 54 (D.agg [D.int .u64 n24, D.bool b27, D.int .i64 n30, D.int .u64 n33, D.agg y36, D.int .i64 n39, D.agg [D.int .i64 n45, D.int .i64 n48, D.bool b51], D.slice c54 l55])))]⟩) else none))) else (lab (todoAt (Γ mx) 15 18) ⟨[(3, .ptr 0 [] 24), (5, .snil), (6, .ptr 1 [] 54), (95, .sl 35 .any l1), (96, .i .i64 ((l1.length : Int))), (97, .i .i64 0)], [some (.box 24 (.d 24 (D.agg [D.str s6, D.slice c7 l8]))), some (.box 54 (.d 54 (D.agg [D.int .u64 n9, D.bool b10, D.int .i64 n11, D.int .u64 n12, D.agg y13, D.int .i64 n14, D.agg [D.int .i64 n15, D.int .i64 n16, D.bool b17], D.slice c18 l19])))]⟩) := by kernel_rfl
theorem r62_8a (lab : Lab) (l1 : List D) (n2 : Int) (b3 : Bool) (c4 : Cp) (l5 : List D) (n6 : Int) (n7 : Int) (l8 : List D) (n9 : Int) (n10 : Int) (s11 : List UInt8) (c12 : Cp) (l13 : List D) (n14 : Int) (b15 : Bool) (n16 : Int) (n17 : Int) (y18 : List D) (n19 : Int) (n20 : Int) (n21 : Int) (b22 : Bool) (c23 : Cp) (l24 : List D) (n25 : Int) (b26 : Bool) (n27 : Int) (n28 : Int) (y29 : List D) (n30 : Int) (n31 : Int) (n32 : Int) (b33 : Bool) (c34 : Cp) (l35 : List D) : evL (Γ mx) H62 lab 15 8 ⟨[(0, .sl 35 .any l1), (3, .ptr 0 [] 24), (5, .snil), (6, .ptr 1 [] 54), (8, .ptr 2 [] 54), (9, .i .i64 n2), (10, .b b3), (24, .sl 54 c4 l5), (25, .i .i64 n6), (26, .i .i64 n7), (37, .sl 35 .any l8), (38, .i .i64 n9), (39, .i .i64 n10)], [some (.box 24 (.d 24 (D.agg [D.str s11, D.slice c12 l13]))), some (.box 54 (.d 54 (D.agg [D.int .u64 n14, D.bool b15, D.int .i64 n16, D.int .u64 n17, D.agg y18, D.int .i64 n19, D.agg [D.int .i64 n20, D.int .i64 n21, D.bool b22], D.slice c23 l24]))), some (.box 54 (.d 54 (D.agg [D.int .u64 n25, D.bool b26, D.int .i64 n27, D.int .u64 n28, D.agg y29, D.int .i64 n30, D.agg [D.int .i64 n31, D.int .i64 n32, D.bool b33], D.slice c34 l35])))]⟩ =
  bif decide (n10 < n9) then (idx l8 n10 fun y36 => dAgg y36 fun y37 => lCons y37 fun a38 r39 => dStr a38 fun s40 => lCons r39 fun a41 r42 => dSlice a41 fun c43 l44 => lCons r42 fun a45 r46 => dInt .i64 a45 fun n47 => lCons r46 fun a48 r49 => dInt .i64 a48 fun n50 => lCons r49 fun a51 r52 => dBool a51 fun b53 => lNil r52 (bif rC (D.agg [D.str s40, D.slice c43 l44, D.int .i64 n47, D.int .i64 n50, D.bool b53]) && oC (D.agg [D.str s11, D.slice c12 l13]) then (bif !(meantD (D.agg [D.str s40, D.slice c43 l44, D.int .i64 n47, D.int .i64 n50, D.bool b53]) (D.agg [D.str s11, D.slice c12 l13])) then (lab (todoAt (Γ mx) 15 8) ⟨[(0, .sl 35 .any l1), (3, .ptr 0 [] 24), (5, .snil), (6, .ptr 1 [] 54), (8, .ptr 2 [] 54), (9, .i .i64 n2), (10, .b b3), (24, .sl 54 c4 l5), (25, .i .i64 n6), (26, .i .i64 n7), (37, .sl 35 .any l8), (38, .i .i64 n9), (39, .i .i64 (IntKind.wrap .i64 (n10 + 1)))], [some (.box 24 (.d 24 (D.agg [D.str s11, D.slice c12 l13]))), some (.box 54 (.d 54 (D.agg [D.int .u64 n14, D.bool b15, D.int .i64 n16, D.int .u64 n17, D.agg y18, D.int .i64 n19, D.agg [D.int .i64 n20, D.int .i64 n21, D.bool b22], D.slice c23 l24]))), some (.box 54 (.d 54 (D.agg [D.int .u64 n25, D.bool b26, D.int .i64 n27, D.int .u64 n28, D.agg y29, D.int .i64 n30, D.agg [D.int .i64 n31, D.int .i64 n32, D.bool b33], D.slice c34 l35])))]⟩) else (bif b3 then (bif decide (n50 > 0) then (lab (todoAt (Γ mx) 15 8) ⟨[(0, .sl 35 .any l1), (3, .ptr 0 [] 24), (5, .ref 47 1), (6, .ptr 2 [] 54), (8, .ptr 3 [] 54), (9, .i .i64 n2), (10, .b b3), (24, .sl 54 c4 l5), (25, .i .i64 n6), (26, .i .i64 n7), (37, .sl 35 .any l8), (38, .i .i64 n9), (39, .i .i64 (IntKind.wrap .i64 (n10 + 1)))], [some (.box 24 (.d 24 (D.agg [D.str s11, D.slice c12 l13]))), some (.arr 47 [D.agg [D.int .i64 (IntKind.wrap .i64 (n2 + (IntKind.wrap .i64 (n50 * 86400)))), D.int .u64 n25, D.agg [D.int .i64 n31, D.int .i64 n32, D.bool b33]]] false), some (.box 54 (.d 54 (D.agg [D.int .u64 n14, D.bool b15, D.int .i64 n16, D.int .u64 n17, D.agg y18, D.int .i64 n19, D.agg [D.int .i64 n20, D.int .i64 n21, D.bool b22], D.slice c23 l24]))), some (.box 54 (.d 54 (D.agg [D.int .u64 n25, D.bool b26, D.int .i64 n27, D.int .u64 n28, D.agg y29, D.int .i64 n30, D.agg [D.int .i64 n31, D.int .i64 n32, D.bool b33], D.slice c34 l35])))]⟩) else (bif !b3 then (bif b26 then (bif b53 then (bif ((l13.length : Int)) == 1 then (lab (todoAt (Γ mx) 15 8) ⟨[(0, .sl 35 .any l1), (3, .ptr 0 [] 24), (5, .ref 47 1), (6, .ptr 2 [] 54), (8, .ptr 3 [] 54), (9, .i .i64 n2), (10, .b b3), (24, .sl 54 c4 l5), (25, .i .i64 n6), (26, .i .i64 n7), (37, .sl 35 .any l8), (38, .i .i64 n9), (39, .i .i64 (IntKind.wrap .i64 (n10 + 1)))], [some (.box 24 (.d 24 (D.agg [D.str s11, D.slice c12 l13]))), some (.arr 47 [D.agg [D.int .i64 (-62135596800), D.int .u64 n25, D.agg [D.int .i64 n31, D.int .i64 n32, D.bool b33]]] false), some (.box 54 (.d 54 (D.agg [D.int .u64 n14, D.bool b15, D.int .i64 n16, D.int .u64 n17, D.agg y18, D.int .i64 n19, D.agg [D.int .i64 n20, D.int .i64 n21, D.bool b22], D.slice c23 l24]))), some (.box 54 (.d 54 (D.agg [D.int .u64 n25, D.bool b26, D.int .i64 n27, D.int .u64 n28, D.agg y29, D.int .i64 n30, D.agg [D.int .i64 n31, D.int .i64 n32, D.bool b33], D.slice c34 l35])))]⟩) else (lab (todoAt (Γ mx) 15 8) ⟨[(0, .sl 35 .any l1), (3, .ptr 0 [] 24), (5, .snil), (6, .ptr 1 [] 54), (8, .ptr 2 [] 54), (9, .i .i64 n2), (10, .b b3), (24, .sl 54 c4 l5), (25, .i .i64 n6), (26, .i .i64 n7), (37, .sl 35 .any l8), (38, .i .i64 n9), (39, .i .i64 (IntKind.wrap .i64 (n10 + 1)))], [some (.box 24 (.d 24 (D.agg [D.str s11, D.slice c12 l13]))), some (.box 54 (.d 54 (D.agg [D.int .u64 n14, D.bool b15, D.int .i64 n16, D.int .u64 n17, D.agg y18, D.int .i64 n19, D.agg [D.int .i64 n20, D.int .i64 n21, D.bool b22], D.slice c23 l24]))), some (.box 54 (.d 54 (D.agg [D.int .u64 n25, D.bool b26, D.int .i64 n27, D.int .u64 n28, D.agg y29, D.int .i64 n30, D.agg [D.int .i64 n31, D.int .i64 n32, D.bool b33], D.slice c34 l35])))]⟩)) else (lab (todoAt (Γ mx) 15 8) ⟨[(0, .sl 35 .any l1), (3, .ptr 0 [] 24), (5, .snil), (6, .ptr 1 [] 54), (8, .ptr 2 [] 54), (9, .i .i64 n2), (10, .b b3), (24, .sl 54 c4 l5), (25, .i .i64 n6), (26, .i .i64 n7), (37, .sl 35 .any l8), (38, .i .i64 n9), (39, .i .i64 (IntKind.wrap .i64 (n10 + 1)))], [some (.box 24 (.d 24 (D.agg [D.str s11, D.slice c12 l13]))), some (.box 54 (.d 54 (D.agg [D.int .u64 n14, D.bool b15, D.int .i64 n16, D.int .u64 n17, D.agg y18, D.int .i64 n19, D.agg [D.int .i64 n20, D.int .i64 n21, D.bool b22], D.slice c23 l24]))), some (.box 54 (.d 54 (D.agg [D.int .u64 n25, D.bool b26, D.int .i64 n27, D.int .u64 n28, D.agg y29, D.int .i64 n30, D.agg [D.int .i64 n31, D.int .i64 n32, D.bool b33], D.slice c34 l35])))]⟩)) else (lab (todoAt (Γ mx) 15 8) ⟨[(0, .sl 35 .any l1), (3, .ptr 0 [] 24), (5, .snil), (6, .ptr 1 [] 54), (8, .ptr 2 [] 54), (9, .i .i64 n2), (10, .b b3), (24, .sl 54 c4 l5), (25, .i .i64 n6), (26, .i .i64 n7), (37, .sl 35 .any l8), (38, .i .i64 n9), (39, .i .i64 (IntKind.wrap .i64 (n10 + 1)))], [some (.box 24 (.d 24 (D.agg [D.str s11, D.slice c12 l13]))), some (.box 54 (.d 54 (D.agg [D.int .u64 n14, D.bool b15, D.int .i64 n16, D.int .u64 n17, D.agg y18, D.int .i64 n19, D.agg [D.int .i64 n20, D.int .i64 n21, D.bool b22], D.slice c23 l24]))), some (.box 54 (.d 54 (D.agg [D.int .u64 n25, D.bool b26, D.int .i64 n27, D.int .u64 n28, D.agg y29, D.int .i64 n30, D.agg [D.int .i64 n31, D.int .i64 n32, D.bool b33], D.slice c34 l35])))]⟩)) else (lab (todoAt (Γ mx) 15 8) ⟨[(0, .sl 35 .any l1), (3, .ptr 0 [] 24), (5, .snil), (6, .ptr 1 [] 54), (8, .ptr 2 [] 54), (9, .i .i64 n2), (10, .b b3), (24, .sl 54 c4 l5), (25, .i .i64 n6), (26, .i .i64 n7), (37, .sl 35 .any l8), (38, .i .i64 n9), (39, .i .i64 (IntKind.wrap .i64 (n10 + 1)))], [some (.box 24 (.d 24 (D.agg [D.str s11, D.slice c12 l13]))), some (.box 54 (.d 54 (D.agg [D.int .u64 n14, D.bool b15, D.int .i64 n16, D.int .u64 n17, D.agg y18, D.int .i64 n19, D.agg [D.int .i64 n20, D.int .i64 n21, D.bool b22], D.slice c23 l24]))), some (.box 54 (.d 54 (D.agg [D.int .u64 n25, D.bool b26, D.int .i64 n27, D.int .u64 n28, D.agg y29, D.int .i64 n30, D.agg [D.int .i64 n31, D.int .i64 n32, D.bool b33], D.slice c34 l35])))]⟩))) else (bif !b3 then (bif b26 then (bif b53 then (bif ((l13.length : Int)) == 1 then (lab (todoAt (Γ mx) 15 8) ⟨[(0, .sl 35 .any l1), (3, .ptr 0 [] 24), (5, .ref 47 1), (6, .ptr 2 [] 54), (8, .ptr 3 [] 54), (9, .i .i64 n2), (10, .b b3), (24, .sl 54 c4 l5), (25, .i .i64 n6), (26, .i .i64 n7), (37, .sl 35 .any l8), (38, .i .i64 n9), (39, .i .i64 (IntKind.wrap .i64 (n10 + 1)))], [some (.box 24 (.d 24 (D.agg [D.str s11, D.slice c12 l13]))), some (.arr 47 [D.agg [D.int .i64 (-62135596800), D.int .u64 n25, D.agg [D.int .i64 n31, D.int .i64 n32, D.bool b33]]] false), some (.box 54 (.d 54 (D.agg [D.int .u64 n14, D.bool b15, D.int .i64 n16, D.int .u64 n17, D.agg y18, D.int .i64 n19, D.agg [D.int .i64 n20, D.int .i64 n21, D.bool b22], D.slice c23 l24]))), some (.box 54 (.d 54 (D.agg [D.int .u64 n25, D.bool b26, D.int .i64 n27, D.int .u64 n28, D.agg y29, D.int .i64 n30, D.agg [D.int .i64 n31, D.int .i64 n32, D.bool b33], D.slice c34 l35])))]⟩) else (lab (todoAt (Γ mx) 15 8) ⟨[(0, .sl 35 .any l1), (3, .ptr 0 [] 24), (5, .snil), (6, .ptr 1 [] 54), (8, .ptr 2 [] 54), (9, .i .i64 n2), (10, .b b3), (24, .sl 54 c4 l5), (25, .i .i64 n6), (26, .i .i64 n7), (37, .sl 35 .any l8), (38, .i .i64 n9), (39, .i .i64 (IntKind.wrap .i64 (n10 + 1)))], [some (.box 24 (.d 24 (D.agg [D.str s11, D.slice c12 l13]))), some (.box 54 (.d 54 (D.agg [D.int .u64 n14, D.bool b15, D.int .i64 n16, D.int .u64 n17, D.agg y18, D.int .i64 n19, D.agg [D.int .i64 n20, D.int .i64 n21, D.bool b22], D.slice c23 l24]))), some (.box 54 (.d 54 (D.agg [D.int .u64 n25, D.bool b26, D.int .i64 n27, D.int .u64 n28, D.agg y29, D.int .i64 n30, D.agg [D.int .i64 n31, D.int .i64 n32, D.bool b33], D.slice c34 l35])))]⟩)) else (lab (todoAt (Γ mx) 15 8) ⟨[(0, .sl 35 .any l1), (3, .ptr 0 [] 24), (5, .snil), (6, .ptr 1 [] 54), (8, .ptr 2 [] 54), (9, .i .i64 n2), (10, .b b3), (24, .sl 54 c4 l5), (25, .i .i64 n6), (26, .i .i64 n7), (37, .sl 35 .any l8), (38, .i .i64 n9), (39, .i .i64 (IntKind.wrap .i64 (n10 + 1)))], [some (.box 24 (.d 24 (D.agg [D.str s11, D.slice c12 l13]))), some (.box 54 (.d 54 (D.agg [D.int .u64 n14, D.bool b15, D.int .i64 n16, D.int .u64 n17, D.agg y18, D.int .i64 n19, D.agg [D.int .i64 n20, D.int .i64 n21, D.bool b22], D.slice c23 l24]))), some (.box 54 (.d 54 (D.agg [D.int .u64 n25, D.bool b26, D.int .i64 n27, D.int .u64 n28, D.agg y29, D.int .i64 n30, D.agg [D.int .i64 n31, D.int .i64 n32, D.bool b33], D.slice c34 l35])))]⟩)) else (lab (todoAt (Γ mx) 15 8) ⟨[(0, .sl 35 .any l1), (3, .ptr 0 [] 24), (5, .snil), (6, .ptr 1 [] 54), (8, .ptr 2 [] 54), (9, .i .i64 n2), (10, .b b3), (24, .sl 54 c4 l5), (25, .i .i64 n6), (26, .i .i64 n7), (37, .sl 35 .any l8), (38, .i .i64 n9), (39, .i .i64 (IntKind.wrap .i64 (n10 + 1)))], [some (.box 24 (.d 24 (D.agg [D.str s11, D.slice c12 l13]))), some (.box 54 (.d 54 (D.agg [D.int .u64 n14, D.bool b15, D.int .i64 n16, D.int .u64 n17, D.agg y18, D.int .i64 n19, D.agg [D.int .i64 n20, D.int .i64 n21, D.bool b22], D.slice c23 l24]))), some (.box 54 (.d 54 (D.agg [D.int .u64 n25, D.bool b26, D.int .i64 n27, D.int .u64 n28, D.agg y29, D.int .i64 n30, D.agg [D.int .i64 n31, D.int .i64 n32, D.bool b33], D.slice c34 l35])))]⟩)) else (lab (todoAt (Γ mx) 15 8) ⟨[(0, .sl 35 .any l1), (3, .ptr 0 [] 24), (5, .snil), (6, .ptr 1 [] 54), (8, .ptr 2 [] 54), (9, .i .i64 n2), (10, .b b3), (24, .sl 54 c4 l5), (25, .i .i64 n6), (26, .i .i64 n7), (37, .sl 35 .any l8), (38, .i .i64 n9), (39, .i .i64 (IntKind.wrap .i64 (n10 + 1)))], [some (.box 24 (.d 24 (D.agg [D.str s11, D.slice c12 l13]))), some (.box 54 (.d 54 (D.agg [D.int .u64 n14, D.bool b15, D.int .i64 n16, D.int .u64 n17, D.agg y18, D.int .i64 n19, D.agg [D.int .i64 n20, D.int .i64 n21, D.bool b22], D.slice c23 l24]))), some (.box 54 (.d 54 (D.agg [D.int .u64 n25, D.bool b26, D.int .i64 n27, D.int .u64 n28, D.agg y29, D.int .i64 n30, D.agg [D.int .i64 n31, D.int .i64 n32, D.bool b33], D.slice c34 l35])))]⟩)))) else none)) else (lab (todoAt (Γ mx) 15 4) ⟨[(0, .sl 35 .any l1), (3, .ptr 0 [] 24), (5, .snil), (6, .ptr 1 [] 54), (24, .sl 54 c4 l5), (25, .i .i64 n6), (26, .i .i64 (IntKind.wrap .i64 (n7 + 1)))], [some (.box 24 (.d 24 (D.agg [D.str s11, D.slice c12 l13]))), some (.box 54 (.d 54 (D.agg [D.int .u64 n14, D.bool b15, D.int .i64 n16, D.int .u64 n17, D.agg y18, D.int .i64 n19, D.agg [D.int .i64 n20, D.int .i64 n21, D.bool b22], D.slice c23 l24])))]⟩) := by kernel_rfl
theorem r62_18a (lab : Lab) (l1 : List D) (n2 : Int) (n3 : Int) (s4 : List UInt8) (c5 : Cp) (l6 : List D) (n7 : Int) (b8 : Bool) (n9 : Int) (n10 : Int) (y11 : List D) (n12 : Int) (n13 : Int) (n14 : Int) (b15 : Bool) (c16 : Cp) (l17 : List D) : evL (Γ mx) H62 lab 15 18 ⟨[(3, .ptr 0 [] 24), (5, .snil), (6, .ptr 1 [] 54), (95, .sl 35 .any l1), (96, .i .i64 n2), (97, .i .i64 n3)], [some (.box 24 (.d 24 (D.agg [D.str s4, D.slice c5 l6]))), some (.box 54 (.d 54 (D.agg [D.int .u64 n7, D.bool b8, D.int .i64 n9, D.int .u64 n10, D.agg y11, D.int .i64 n12, D.agg [D.int .i64 n13, D.int .i64 n14, D.bool b15], D.slice c16 l17])))]⟩ =
  bif decide (n3 < n2) then (idx l1 n3 fun y18 => dAgg y18 fun y19 => lCons y19 fun a20 r21 => dStr a20 fun s22 => lCons r21 fun a23 r24 => dSlice a23 fun c25 l26 => lCons r24 fun a27 r28 => dInt .i64 a27 fun n29 => lCons r28 fun a30 r31 => dInt .i64 a30 fun n32 => lCons r31 fun a33 r34 => dBool a33 fun b35 => lNil r34 (bif rC (D.agg [D.str s22, D.slice c25 l26, D.int .i64 n29, D.int .i64 n32, D.bool b35]) && oC (D.agg [D.str s4, D.slice c5 l6]) then (bif meantD (D.agg [D.str s22, D.slice c25 l26, D.int .i64 n29, D.int .i64 n32, D.bool b35]) (D.agg [D.str s4, D.slice c5 l6]) then (bif decide (n29 > 0) then (bif !b8 then (lab (todoAt (Γ mx) 15 18) ⟨[(3, .ptr 0 [] 24), (5, .ref 47 1), (6, .ptr 2 [] 54), (95, .sl 35 .any l1), (96, .i .i64 n2), (97, .i .i64 (IntKind.wrap .i64 (n3 + 1)))], [some (.box 24 (.d 24 (D.agg [D.str s4, D.slice c5 l6]))), some (.arr 47 [D.agg [D.int .i64 (IntKind.wrap .i64 (n12 + (IntKind.wrap .i64 (n29 * 86400)))), D.int .u64 0, D.agg [D.int .i64 0, D.int .i64 0, D.bool false]]] false), some (.box 54 (.d 54 (D.agg [D.int .u64 n7, D.bool b8, D.int .i64 n9, D.int .u64 n10, D.agg y11, D.int .i64 n12, D.agg [D.int .i64 n13, D.int .i64 n14, D.bool b15], D.slice c16 l17])))]⟩) else (lab (todoAt (Γ mx) 15 18) ⟨[(3, .ptr 0 [] 24), (5, .snil), (6, .ptr 1 [] 54), (95, .sl 35 .any l1), (96, .i .i64 n2), (97, .i .i64 (IntKind.wrap .i64 (n3 + 1)))], [some (.box 24 (.d 24 (D.agg [D.str s4, D.slice c5 l6]))), some (.box 54 (.d 54 (D.agg [D.int .u64 n7, D.bool b8, D.int .i64 n9, D.int .u64 n10, D.agg y11, D.int .i64 n12, D.agg [D.int .i64 n13, D.int .i64 n14, D.bool b15], D.slice c16 l17])))]⟩)) else (lab (todoAt (Γ mx) 15 18) ⟨[(3, .ptr 0 [] 24), (5, .snil), (6, .ptr 1 [] 54), (95, .sl 35 .any l1), (96, .i .i64 n2), (97, .i .i64 (IntKind.wrap .i64 (n3 + 1)))], [some (.box 24 (.d 24 (D.agg [D.str s4, D.slice c5 l6]))), some (.box 54 (.d 54 (D.agg [D.int .u64 n7, D.bool b8, D.int .i64 n9, D.int .u64 n10, D.agg y11, D.int .i64 n12, D.agg [D.int .i64 n13, D.int .i64 n14, D.bool b15], D.slice c16 l17])))]⟩)) else (lab (todoAt (Γ mx) 15 18) ⟨[(3, .ptr 0 [] 24), (5, .snil), (6, .ptr 1 [] 54), (95, .sl 35 .any l1), (96, .i .i64 n2), (97, .i .i64 (IntKind.wrap .i64 (n3 + 1)))], [some (.box 24 (.d 24 (D.agg [D.str s4, D.slice c5 l6]))), some (.box 54 (.d 54 (D.agg [D.int .u64 n7, D.bool b8, D.int .i64 n9, D.int .u64 n10, D.agg y11, D.int .i64 n12, D.agg [D.int .i64 n13, D.int .i64 n14, D.bool b15], D.slice c16 l17])))]⟩)) else none)) else (some (.snil, [])) := by kernel_rfl
theorem r62_8b (lab : Lab) (l1 : List D) (n2 : Int) (b3 : Bool) (c4 : Cp) (l5 : List D) (n6 : Int) (n7 : Int) (l8 : List D) (n9 : Int) (n10 : Int) (s11 : List UInt8) (c12 : Cp) (l13 : List D) (l14 : List D) (n15 : Int) (b16 : Bool) (n17 : Int) (n18 : Int) (y19 : List D) (n20 : Int) (n21 : Int) (n22 : Int) (b23 : Bool) (c24 : Cp) (l25 : List D) (n26 : Int) (b27 : Bool) (n28 : Int) (n29 : Int) (y30 : List D) (n31 : Int) (n32 : Int) (n33 : Int) (b34 : Bool) (c35 : Cp) (l36 : List D) : evL (Γ mx) H62 lab 15 8 ⟨[(0, .sl 35 .any l1), (3, .ptr 0 [] 24), (5, .ref 47 1), (6, .ptr 2 [] 54), (8, .ptr 3 [] 54), (9, .i .i64 n2), (10, .b b3), (24, .sl 54 c4 l5), (25, .i .i64 n6), (26, .i .i64 n7), (37, .sl 35 .any l8), (38, .i .i64 n9), (39, .i .i64 n10)], [some (.box 24 (.d 24 (D.agg [D.str s11, D.slice c12 l13]))), some (.arr 47 l14 false), some (.box 54 (.d 54 (D.agg [D.int .u64 n15, D.bool b16, D.int .i64 n17, D.int .u64 n18, D.agg y19, D.int .i64 n20, D.agg [D.int .i64 n21, D.int .i64 n22, D.bool b23], D.slice c24 l25]))), some (.box 54 (.d 54 (D.agg [D.int .u64 n26, D.bool b27, D.int .i64 n28, D.int .u64 n29, D.agg y30, D.int .i64 n31, D.agg [D.int .i64 n32, D.int .i64 n33, D.bool b34], D.slice c35 l36])))]⟩ =
  bif decide (n10 < n9) then (idx l8 n10 fun y37 => dAgg y37 fun y38 => lCons y38 fun a39 r40 => dStr a39 fun s41 => lCons r40 fun a42 r43 => dSlice a42 fun c44 l45 => lCons r43 fun a46 r47 => dInt .i64 a46 fun n48 => lCons r47 fun a49 r50 => dInt .i64 a49 fun n51 => lCons r50 fun a52 r53 => dBool a52 fun b54 => lNil r53 (bif rC (D.agg [D.str s41, D.slice c44 l45, D.int .i64 n48, D.int .i64 n51, D.bool b54]) && oC (D.agg [D.str s11, D.slice c12 l13]) then (bif !(meantD (D.agg [D.str s41, D.slice c44 l45, D.int .i64 n48, D.int .i64 n51, D.bool b54]) (D.agg [D.str s11, D.slice c12 l13])) then (lab (todoAt (Γ mx) 15 8) ⟨[(0, .sl 35 .any l1), (3, .ptr 0 [] 24), (5, .ref 47 1), (6, .ptr 2 [] 54), (8, .ptr 3 [] 54), (9, .i .i64 n2), (10, .b b3), (24, .sl 54 c4 l5), (25, .i .i64 n6), (26, .i .i64 n7), (37, .sl 35 .any l8), (38, .i .i64 n9), (39, .i .i64 (IntKind.wrap .i64 (n10 + 1)))], [some (.box 24 (.d 24 (D.agg [D.str s11, D.slice c12 l13]))), some (.arr 47 l14 false), some (.box 54 (.d 54 (D.agg [D.int .u64 n15, D.bool b16, D.int .i64 n17, D.int .u64 n18, D.agg y19, D.int .i64 n20, D.agg [D.int .i64 n21, D.int .i64 n22, D.bool b23], D.slice c24 l25]))), some (.box 54 (.d 54 (D.agg [D.int .u64 n26, D.bool b27, D.int .i64 n28, D.int .u64 n29, D.agg y30, D.int .i64 n31, D.agg [D.int .i64 n32, D.int .i64 n33, D.bool b34], D.slice c35 l36])))]⟩) else (bif b3 then (bif decide (n51 > 0) then (bif roomB (l14.length + 1) 40 then (lab (todoAt (Γ mx) 15 8) ⟨[(0, .sl 35 .any l1), (3, .ptr 0 [] 24), (5, .ref 47 1), (6, .ptr 2 [] 54), (8, .ptr 3 [] 54), (9, .i .i64 n2), (10, .b b3), (24, .sl 54 c4 l5), (25, .i .i64 n6), (26, .i .i64 n7), (37, .sl 35 .any l8), (38, .i .i64 n9), (39, .i .i64 (IntKind.wrap .i64 (n10 + 1)))], [some (.box 24 (.d 24 (D.agg [D.str s11, D.slice c12 l13]))), some (.arr 47 (l14 ++ [D.agg [D.int .i64 (IntKind.wrap .i64 (n2 + (IntKind.wrap .i64 (n51 * 86400)))), D.int .u64 n26, D.agg [D.int .i64 n32, D.int .i64 n33, D.bool b34]]]) false), some (.box 54 (.d 54 (D.agg [D.int .u64 n15, D.bool b16, D.int .i64 n17, D.int .u64 n18, D.agg y19, D.int .i64 n20, D.agg [D.int .i64 n21, D.int .i64 n22, D.bool b23], D.slice c24 l25]))), some (.box 54 (.d 54 (D.agg [D.int .u64 n26, D.bool b27, D.int .i64 n28, D.int .u64 n29, D.agg y30, D.int .i64 n31, D.agg [D.int .i64 n32, D.int .i64 n33, D.bool b34], D.slice c35 l36])))]⟩) else none) else (bif !b3 then (bif b27 then (bif b54 then (bif ((l13.length : Int)) == 1 then (bif roomB (l14.length + 1) 40 then (lab (todoAt (Γ mx) 15 8) ⟨[(0, .sl 35 .any l1), (3, .ptr 0 [] 24), (5, .ref 47 1), (6, .ptr 2 [] 54), (8, .ptr 3 [] 54), (9, .i .i64 n2), (10, .b b3), (24, .sl 54 c4 l5), (25, .i .i64 n6), (26, .i .i64 n7), (37, .sl 35 .any l8), (38, .i .i64 n9), (39, .i .i64 (IntKind.wrap .i64 (n10 + 1)))], [some (.box 24 (.d 24 (D.agg [D.str s11, D.slice c12 l13]))), some (.arr 47 (l14 ++ [D.agg [D.int .i64 (-62135596800), D.int .u64 n26, D.agg [D.int .i64 n32, D.int .i64 n33, D.bool b34]]]) false), some (.box 54 (.d 54 (D.agg [D.int .u64 n15, D.bool b16, D.int .i64 n17, D.int .u64 n18, D.agg y19, D.int .i64 n20, D.agg [D.int .i64 n21, D.int .i64 n22, D.bool b23], D.slice c24 l25]))), some (.box 54 (.d 54 (D.agg [D.int .u64 n26, D.bool b27, D.int .i64 n28, D.int .u64 n29, D.agg y30, D.int .i64 n31, D.agg [D.int .i64 n32, D.int .i64 n33, D.bool b34], D.slice c35 l36])))]⟩) else none) else (lab (todoAt (Γ mx) 15 8) ⟨[(0, .sl 35 .any l1), (3, .ptr 0 [] 24), (5, .ref 47 1), (6, .ptr 2 [] 54), (8, .ptr 3 [] 54), (9, .i .i64 n2), (10, .b b3), (24, .sl 54 c4 l5), (25, .i .i64 n6), (26, .i .i64 n7), (37, .sl 35 .any l8), (38, .i .i64 n9), (39, .i .i64 (IntKind.wrap .i64 (n10 + 1)))], [some (.box 24 (.d 24 (D.agg [D.str s11, D.slice c12 l13]))), some (.arr 47 l14 false), some (.box 54 (.d 54 (D.agg [D.int .u64 n15, D.bool b16, D.int .i64 n17, D.int .u64 n18, D.agg y19, D.int .i64 n20, D.agg [D.int .i64 n21, D.int .i64 n22, D.bool b23], D.slice c24 l25]))), some (.box 54 (.d 54 (D.agg [D.int .u64 n26, D.bool b27, D.int .i64 n28, D.int .u64 n29, D.agg y30, D.int .i64 n31, D.agg [D.int .i64 n32, D.int .i64 n33, D.bool b34], D.slice c35 l36])))]⟩)) else (lab (todoAt (Γ mx) 15 8) ⟨[(0, .sl 35 .any l1), (3, .ptr 0 [] 24), (5, .ref 47 1), (6, .ptr 2 [] 54), (8, .ptr 3 [] 54), (9, .i .i64 n2), (10, .b b3), (24, .sl 54 c4 l5), (25, .i .i64 n6), (26, .i .i64 n7), (37, .sl 35 .any l8), (38, .i .i64 n9), (39, .i .i64 (IntKind.wrap .i64 (n10 + 1)))], [some (.box 24 (.d 24 (D.agg [D.str s11, D.slice c12 l13]))), some (.arr 47 l14 false), some (.box 54 (.d 54 (D.agg [D.int .u64 n15, D.bool b16, D.int .i64 n17, D.int .u64 n18, D.agg y19, D.int .i64 n20, D.agg [D.int .i64 n21, D.int .i64 n22, D.bool b23], D.slice c24 l25]))), some (.box 54 (.d 54 (D.agg [D.int .u64 n26, D.bool b27, D.int .i64 n28, D.int .u64 n29, D.agg y30, D.int .i64 n31, D.agg [D.int .i64 n32, D.int .i64 n33, D.bool b34], D.slice c35 l36])))]⟩)) else (lab (todoAt (Γ mx) 15 8) ⟨[(0, .sl 35 .any l1), (3, .ptr 0 [] 24), (5, .ref 47 1), (6, .ptr 2 [] 54), (8, .ptr 3 [] 54), (9, .i .i64 n2), (10, .b b3), (24, .sl 54 c4 l5), (25, .i .i64 n6), (26, .i .i64 n7), (37, .sl 35 .any l8), (38, .i .i64 n9), (39, .i .i64 (IntKind.wrap .i64 (n10 + 1)))], [some (.box 24 (.d 24 (D.agg [D.str s11, D.slice c12 l13]))), some (.arr 47 l14 false), some (.box 54 (.d 54 (D.agg [D.int .u64 n15, D.bool b16, D.int .i64 n17, D.int .u64 n18, D.agg y19, D.int .i64 n20, D.agg [D.int .i64 n21, D.int .i64 n22, D.bool b23], D.slice c24 l25]))), some (.box 54 (.d 54 (D.agg [D.int .u64 n26, D.bool b27, D.int .i64 n28, D.int .u64 n29, D.agg y30, D.int .i64 n31, D.agg [D.int .i64 n32, D.int .i64 n33, D.bool b34], D.slice c35 l36])))]⟩)) else (lab (todoAt (Γ mx) 15 8) ⟨[(0, .sl 35 .any l1), (3, .ptr 0 [] 24), (5, .ref 47 1), (6, .ptr 2 [] 54), (8, .ptr 3 [] 54), (9, .i .i64 n2), (10, .b b3), (24, .sl 54 c4 l5), (25, .i .i64 n6), (26, .i .i64 n7), (37, .sl 35 .any l8), (38, .i .i64 n9), (39, .i .i64 (IntKind.wrap .i64 (n10 + 1)))], [some (.box 24 (.d 24 (D.agg [D.str s11, D.slice c12 l13]))), some (.arr 47 l14 false), some (.box 54 (.d 54 (D.agg [D.int .u64 n15, D.bool b16, D.int .i64 n17, D.int .u64 n18, D.agg y19, D.int .i64 n20, D.agg [D.int .i64 n21, D.int .i64 n22, D.bool b23], D.slice c24 l25]))), some (.box 54 (.d 54 (D.agg [D.int .u64 n26, D.bool b27, D.int .i64 n28, D.int .u64 n29, D.agg y30, D.int .i64 n31, D.agg [D.int .i64 n32, D.int .i64 n33, D.bool b34], D.slice c35 l36])))]⟩))) else (bif !b3 then (bif b27 then (bif b54 then (bif ((l13.length : Int)) == 1 then (bif roomB (l14.length + 1) 40 then (lab (todoAt (Γ mx) 15 8) ⟨[(0, .sl 35 .any l1), (3, .ptr 0 [] 24), (5, .ref 47 1), (6, .ptr 2 [] 54), (8, .ptr 3 [] 54), (9, .i .i64 n2), (10, .b b3), (24, .sl 54 c4 l5), (25, .i .i64 n6), (26, .i .i64 n7), (37, .sl 35 .any l8), (38, .i .i64 n9), (39, .i .i64 (IntKind.wrap .i64 (n10 + 1)))], [some (.box 24 (.d 24 (D.agg [D.str s11, D.slice c12 l13]))), some (.arr 47 (l14 ++ [D.agg [D.int .i64 (-62135596800), D.int .u64 n26, D.agg [D.int .i64 n32, D.int .i64 n33, D.bool b34]]]) false), some (.box 54 (.d 54 (D.agg [D.int .u64 n15, D.bool b16, D.int .i64 n17, D.int .u64 n18, D.agg y19, D.int .i64 n20, D.agg [D.int .i64 n21, D.int .i64 n22, D.bool b23], D.slice c24 l25]))), some (.box 54 (.d 54 (D.agg [D.int .u64 n26, D.bool b27, D.int .i64 n28, D.int .u64 n29, D.agg y30, D.int .i64 n31, D.agg [D.int .i64 n32, D.int .i64 n33, D.bool b34], D.slice c35 l36])))]⟩) else none) else (lab (todoAt (Γ mx) 15 8) ⟨[(0, .sl 35 .any l1), (3, .ptr 0 [] 24), (5, .ref 47 1), (6, .ptr 2 [] 54), (8, .ptr 3 [] 54), (9, .i .i64 n2), (10, .b b3), (24, .sl 54 c4 l5), (25, .i .i64 n6), (26, .i .i64 n7), (37, .sl 35 .any l8), (38, .i .i64 n9), (39, .i .i64 (IntKind.wrap .i64 (n10 + 1)))], [some (.box 24 (.d 24 (D.agg [D.str s11, D.slice c12 l13]))), some (.arr 47 l14 false), some (.box 54 (.d 54 (D.agg [D.int .u64 n15, D.bool b16, D.int .i64 n17, D.int .u64 n18, D.agg y19, D.int .i64 n20, D.agg [D.int .i64 n21, D.int .i64 n22, D.bool b23], D.slice c24 l25]))), some (.box 54 (.d 54 (D.agg [D.int .u64 n26, D.bool b27, D.int .i64 n28, D.int .u64 n29, D.agg y30, D.int .i64 n31, D.agg [D.int .i64 n32, D.int .i64 n33, D.bool b34], D.slice c35 l36])))]⟩)) else (lab (todoAt (Γ mx) 15 8) ⟨[(0, .sl 35 .any l1), (3, .ptr 0 [] 24), (5, .ref 47 1), (6, .ptr 2 [] 54), (8, .ptr 3 [] 54), (9, .i .i64 n2), (10, .b b3), (24, .sl 54 c4 l5), (25, .i .i64 n6), (26, .i .i64 n7), (37, .sl 35 .any l8), (38, .i .i64 n9), (39, .i .i64 (IntKind.wrap .i64 (n10 + 1)))], [some (.box 24 (.d 24 (D.agg [D.str s11, D.slice c12 l13]))), some (.arr 47 l14 false), some (.box 54 (.d 54 (D.agg [D.int .u64 n15, D.bool b16, D.int .i64 n17, D.int .u64 n18, D.agg y19, D.int .i64 n20, D.agg [D.int .i64 n21, D.int .i64 n22, D.bool b23], D.slice c24 l25]))), some (.box 54 (.d 54 (D.agg [D.int .u64 n26, D.bool b27, D.int .i64 n28, D.int .u64 n29, D.agg y30, D.int .i64 n31, D.agg [D.int .i64 n32, D.int .i64 n33, D.bool b34], D.slice c35 l36])))]⟩)) else (lab (todoAt (Γ mx) 15 8) ⟨[(0, .sl 35 .any l1), (3, .ptr 0 [] 24), (5, .ref 47 1), (6, .ptr 2 [] 54), (8, .ptr 3 [] 54), (9, .i .i64 n2), (10, .b b3), (24, .sl 54 c4 l5), (25, .i .i64 n6), (26, .i .i64 n7), (37, .sl 35 .any l8), (38, .i .i64 n9), (39, .i .i64 (IntKind.wrap .i64 (n10 + 1)))], [some (.box 24 (.d 24 (D.agg [D.str s11, D.slice c12 l13]))), some (.arr 47 l14 false), some (.box 54 (.d 54 (D.agg [D.int .u64 n15, D.bool b16, D.int .i64 n17, D.int .u64 n18, D.agg y19, D.int .i64 n20, D.agg [D.int .i64 n21, D.int .i64 n22, D.bool b23], D.slice c24 l25]))), some (.box 54 (.d 54 (D.agg [D.int .u64 n26, D.bool b27, D.int .i64 n28, D.int .u64 n29, D.agg y30, D.int .i64 n31, D.agg [D.int .i64 n32, D.int .i64 n33, D.bool b34], D.slice c35 l36])))]⟩)) else (lab (todoAt (Γ mx) 15 8) ⟨[(0, .sl 35 .any l1), (3, .ptr 0 [] 24), (5, .ref 47 1), (6, .ptr 2 [] 54), (8, .ptr 3 [] 54), (9, .i .i64 n2), (10, .b b3), (24, .sl 54 c4 l5), (25, .i .i64 n6), (26, .i .i64 n7), (37, .sl 35 .any l8), (38, .i .i64 n9), (39, .i .i64 (IntKind.wrap .i64 (n10 + 1)))], [some (.box 24 (.d 24 (D.agg [D.str s11, D.slice c12 l13]))), some (.arr 47 l14 false), some (.box 54 (.d 54 (D.agg [D.int .u64 n15, D.bool b16, D.int .i64 n17, D.int .u64 n18, D.agg y19, D.int .i64 n20, D.agg [D.int .i64 n21, D.int .i64 n22, D.bool b23], D.slice c24 l25]))), some (.box 54 (.d 54 (D.agg [D.int .u64 n26, D.bool b27, D.int .i64 n28, D.int .u64 n29, D.agg y30, D.int .i64 n31, D.agg [D.int .i64 n32, D.int .i64 n33, D.bool b34], D.slice c35 l36])))]⟩)))) else none)) else (lab (todoAt (Γ mx) 15 4) ⟨[(0, .sl 35 .any l1), (3, .ptr 0 [] 24), (5, .ref 47 1), (6, .ptr 2 [] 54), (24, .sl 54 c4 l5), (25, .i .i64 n6), (26, .i .i64 (IntKind.wrap .i64 (n7 + 1)))], [some (.box 24 (.d 24 (D.agg [D.str s11, D.slice c12 l13]))), some (.arr 47 l14 false), some (.box 54 (.d 54 (D.agg [D.int .u64 n15, D.bool b16, D.int .i64 n17, D.int .u64 n18, D.agg y19, D.int .i64 n20, D.agg [D.int .i64 n21, D.int .i64 n22, D.bool b23], D.slice c24 l25])))]⟩) := by kernel_rfl
theorem r62_18b (lab : Lab) (l1 : List D) (n2 : Int) (n3 : Int) (s4 : List UInt8) (c5 : Cp) (l6 : List D) (l7 : List D) (n8 : Int) (b9 : Bool) (n10 : Int) (n11 : Int) (y12 : List D) (n13 : Int) (n14 : Int) (n15 : Int) (b16 : Bool) (c17 : Cp) (l18 : List D) : evL (Γ mx) H62 lab 15 18 ⟨[(3, .ptr 0 [] 24), (5, .ref 47 1), (6, .ptr 2 [] 54), (95, .sl 35 .any l1), (96, .i .i64 n2), (97, .i .i64 n3)], [some (.box 24 (.d 24 (D.agg [D.str s4, D.slice c5 l6]))), some (.arr 47 l7 false), some (.box 54 (.d 54 (D.agg [D.int .u64 n8, D.bool b9, D.int .i64 n10, D.int .u64 n11, D.agg y12, D.int .i64 n13, D.agg [D.int .i64 n14, D.int .i64 n15, D.bool b16], D.slice c17 l18])))]⟩ =
  bif decide (n3 < n2) then (idx l1 n3 fun y19 => dAgg y19 fun y20 => lCons y20 fun a21 r22 => dStr a21 fun s23 => lCons r22 fun a24 r25 => dSlice a24 fun c26 l27 => lCons r25 fun a28 r29 => dInt .i64 a28 fun n30 => lCons r29 fun a31 r32 => dInt .i64 a31 fun n33 => lCons r32 fun a34 r35 => dBool a34 fun b36 => lNil r35 (bif rC (D.agg [D.str s23, D.slice c26 l27, D.int .i64 n30, D.int .i64 n33, D.bool b36]) && oC (D.agg [D.str s4, D.slice c5 l6]) then (bif meantD (D.agg [D.str s23, D.slice c26 l27, D.int .i64 n30, D.int .i64 n33, D.bool b36]) (D.agg [D.str s4, D.slice c5 l6]) then (bif decide (n30 > 0) then (bif !b9 then (bif roomB (l7.length + 1) 40 then (lab (todoAt (Γ mx) 15 18) ⟨[(3, .ptr 0 [] 24), (5, .ref 47 1), (6, .ptr 2 [] 54), (95, .sl 35 .any l1), (96, .i .i64 n2), (97, .i .i64 (IntKind.wrap .i64 (n3 + 1)))], [some (.box 24 (.d 24 (D.agg [D.str s4, D.slice c5 l6]))), some (.arr 47 (l7 ++ [D.agg [D.int .i64 (IntKind.wrap .i64 (n13 + (IntKind.wrap .i64 (n30 * 86400)))), D.int .u64 0, D.agg [D.int .i64 0, D.int .i64 0, D.bool false]]]) false), some (.box 54 (.d 54 (D.agg [D.int .u64 n8, D.bool b9, D.int .i64 n10, D.int .u64 n11, D.agg y12, D.int .i64 n13, D.agg [D.int .i64 n14, D.int .i64 n15, D.bool b16], D.slice c17 l18])))]⟩) else none) else (lab (todoAt (Γ mx) 15 18) ⟨[(3, .ptr 0 [] 24), (5, .ref 47 1), (6, .ptr 2 [] 54), (95, .sl 35 .any l1), (96, .i .i64 n2), (97, .i .i64 (IntKind.wrap .i64 (n3 + 1)))], [some (.box 24 (.d 24 (D.agg [D.str s4, D.slice c5 l6]))), some (.arr 47 l7 false), some (.box 54 (.d 54 (D.agg [D.int .u64 n8, D.bool b9, D.int .i64 n10, D.int .u64 n11, D.agg y12, D.int .i64 n13, D.agg [D.int .i64 n14, D.int .i64 n15, D.bool b16], D.slice c17 l18])))]⟩)) else (lab (todoAt (Γ mx) 15 18) ⟨[(3, .ptr 0 [] 24), (5, .ref 47 1), (6, .ptr 2 [] 54), (95, .sl 35 .any l1), (96, .i .i64 n2), (97, .i .i64 (IntKind.wrap .i64 (n3 + 1)))], [some (.box 24 (.d 24 (D.agg [D.str s4, D.slice c5 l6]))), some (.arr 47 l7 false), some (.box 54 (.d 54 (D.agg [D.int .u64 n8, D.bool b9, D.int .i64 n10, D.int .u64 n11, D.agg y12, D.int .i64 n13, D.agg [D.int .i64 n14, D.int .i64 n15, D.bool b16], D.slice c17 l18])))]⟩)) else (lab (todoAt (Γ mx) 15 18) ⟨[(3, .ptr 0 [] 24), (5, .ref 47 1), (6, .ptr 2 [] 54), (95, .sl 35 .any l1), (96, .i .i64 n2), (97, .i .i64 (IntKind.wrap .i64 (n3 + 1)))], [some (.box 24 (.d 24 (D.agg [D.str s4, D.slice c5 l6]))), some (.arr 47 l7 false), some (.box 54 (.d 54 (D.agg [D.int .u64 n8, D.bool b9, D.int .i64 n10, D.int .u64 n11, D.agg y12, D.int .i64 n13, D.agg [D.int .i64 n14, D.int .i64 n15, D.bool b16], D.slice c17 l18])))]⟩)) else none)) else (some (.sl 47 .any l7, [])) := by kernel_rfl
theorem r62_4b (lab : Lab) (l1 : List D) (c2 : Cp) (l3 : List D) (n4 : Int) (n5 : Int) (s6 : List UInt8) (c7 : Cp) (l8 : List D) (l9 : List D) (n10 : Int) (b11 : Bool) (n12 : Int) (n13 : Int) (y14 : List D) (n15 : Int) (n16 : Int) (n17 : Int) (b18 : Bool) (c19 : Cp) (l20 : List D) : evL (Γ mx) H62 lab 15 4 ⟨[(0, .sl 35 .any l1), (3, .ptr 0 [] 24), (5, .ref 47 1), (6, .ptr 2 [] 54), (24, .sl 54 c2 l3), (25, .i .i64 n4), (26, .i .i64 n5)], [some (.box 24 (.d 24 (D.agg [D.str s6, D.slice c7 l8]))), some (.arr 47 l9 false), some (.box 54 (.d 54 (D.agg [D.int .u64 n10, D.bool b11, D.int .i64 n12, D.int .u64 n13, D.agg y14, D.int .i64 n15, D.agg [D.int .i64 n16, D.int .i64 n17, D.bool b18], D.slice c19 l20])))]⟩ =
  bif decide (n5 < n4) then (idx l3 n5 fun y21 => dAgg y21 fun y22 => lCons y22 fun a23 r24 => dInt .u64 a23 fun n25 => lCons r24 fun a26 r27 => dBool a26 fun b28 => lCons r27 fun a29 r30 => dInt .i64 a29 fun n31 => lCons r30 fun a32 r33 => dInt .u64 a32 fun n34 => lCons r33 fun a35 r36 => dAgg a35 fun y37 => lCons r36 fun a38 r39 => dInt .i64 a38 fun n40 => lCons r39 fun a41 r42 => dAgg a41 fun y43 => lCons y43 fun a44 r45 => dInt .i64 a44 fun n46 => lCons r45 fun a47 r48 => dInt .i64 a47 fun n49 => lCons r48 fun a50 r51 => dBool a50 fun b52 => lNil r51 (lCons r42 fun a53 r54 => dSlice a53 fun c55 l56 => lNil r54 (bif oC (D.agg [D.str s6, D.slice c7 l8]) then (lab (todoAt (Γ mx) 15 8) ⟨[(0, .sl 35 .any l1), (3, .ptr 0 [] 24), (5, .ref 47 1), (6, .ptr 2 [] 54), (8, .ptr 3 [] 54), (9, .i .i64 (replT (D.agg [D.str s6, D.slice c7 l8]) n25)), (10, .b (replB (D.agg [D.str s6, D.slice c7 l8]) n25)), (24, .sl 54 c2 l3), (25, .i .i64 n4), (26, .i .i64 n5), (37, .sl 35 .any l1), (38, .i .i64 ((l1.length : Int))), (39, .i .i64 0)], [some (.box 24 (.d 24 (D.agg [D.str s6, D.slice c7 l8]))), some (.arr 47 l9 false), some (.box 54 (.d 54 (D.agg [D.int .u64 n10, D.bool b11, D.int .i64 n12, D.int .u64 n13, D.agg y14, D.int .i64 n15, D.agg [D.int .i64 n16, D.int .i64 n17, D.bool b18], D.slice c19 l20]))), some (.box 54 (.d 54 (D.agg [D.int .u64 n25, D.bool b28, D.int .i64 n31, D.int .u64 n34, D.agg y37, D.int .i64 n40, D.agg [D.int .i64 n46, D.int .i64 n49, D.bool b52], D.slice c55 l56])))]⟩) else none))) else (lab (todoAt (Γ mx) 15 18) ⟨[(3, .ptr 0 [] 24), (5, .ref 47 1), (6, .ptr 2 [] 54), (95, .sl 35 .any l1), (96, .i .i64 ((l1.length : Int))), (97, .i .i64 0)], [some (.box 24 (.d 24 (D.agg [D.str s6, D.slice c7 l8]))), some (.arr 47 l9 false), some (.box 54 (.d 54 (D.agg [D.int .u64 n10, D.bool b11, D.int .i64 n12, D.int .u64 n13, D.agg y14, D.int .i64 n15, D.agg [D.int .i64 n16, D.int .i64 n17, D.bool b18], D.slice c19 l20])))]⟩) := by kernel_rfl
def H36 : Handle := runS [⟨14, dat (spLD 35 24 (fun l o => rsC l && oC o) fun l o => .b (goodB l o))⟩, ⟨15, dat (spLD 35 24 (fun l o => rsC l && (oC o && goodB l o)) fun l o => .sl 47 .any (evsL l o))⟩, ⟨50, dat (spDt 45 isLk fun l t => .b (heldD l t))⟩]
theorem r36 (lab : Lab) (l : List D) (ok : List UInt8) (oc : Cp) (ov : List D) (t : Int) : evF (Γ mx) H36 lab 20 [.sl 35 .any l, .d 24 (D.agg [D.str ok, D.slice oc ov]), .i .i64 t] [] =
  bif rsC l && oC (D.agg [D.str ok, D.slice oc ov]) then (bif !(goodB l (D.agg [D.str ok, D.slice oc ov])) then (some (.tuple [.i .u64 0, .b false, .i .i64 2], [])) else (bif rsC l && (oC (D.agg [D.str ok, D.slice oc ov]) && goodB l (D.agg [D.str ok, D.slice oc ov])) then (lab (todoAt (Γ mx) 20 4) ⟨[(2, .i .i64 t), (17, .sl 47 .any (evsL l (D.agg [D.str ok, D.slice oc ov]))), (18, .i .i64 (((evsL l (D.agg [D.str ok, D.slice oc ov])).length : Int))), (19, .i .i64 0)], []⟩) else none)) else none := by kernel_rfl
theorem r36_4a (lab : Lab) (n1 : Int) (l2 : List D) (n3 : Int) (n4 : Int) : evL (Γ mx) H36 lab 20 4 ⟨[(2, .i .i64 n1), (17, .sl 47 .any l2), (18, .i .i64 n3), (19, .i .i64 n4)], []⟩ =
  bif decide (n4 < n3) then (idx l2 n4 fun y5 => dAgg y5 fun y6 => lCons y6 fun a7 r8 => dInt .i64 a7 fun n9 => lCons r8 fun a10 r11 => dInt .u64 a10 fun n12 => lCons r11 fun a13 r14 => dAgg a13 fun y15 => lCons y15 fun a16 r17 => dInt .i64 a16 fun n18 => lCons r17 fun a19 r20 => dInt .i64 a19 fun n21 => lCons r20 fun a22 r23 => dBool a22 fun b24 => lNil r23 (lNil r14 (bif decide (n1 < n9) then (lab (todoAt (Γ mx) 20 4) ⟨[(2, .i .i64 n1), (17, .sl 47 .any l2), (18, .i .i64 n3), (19, .i .i64 (IntKind.wrap .i64 (n4 + 1)))], []⟩) else (bif isLk (D.agg [D.int .i64 n18, D.int .i64 n21, D.bool b24]) then (bif heldD (D.agg [D.int .i64 n18, D.int .i64 n21, D.bool b24]) n1 then (lab (todoAt (Γ mx) 20 4) ⟨[(2, .i .i64 n1), (17, .sl 47 .any l2), (18, .i .i64 n3), (19, .i .i64 (IntKind.wrap .i64 (n4 + 1)))], []⟩) else (some (.tuple [.i .u64 n12, .b (n12 == 0), .i .i64 0], []))) else none)))) else (some (.tuple [.i .u64 0, .b false, .i .i64 0], [])) := by kernel_rfl
def H11 : Handle := runS [⟨20, dat (spLDt 35 24 (fun l o => rsC l && oC o) fun l o t => .tuple [.i .u64 (dueI l o t), .b (dueM l o t), .i .i64 (dueE l o)])⟩, ⟨8, dat (sp0 true (.b true))⟩]
end Go.Proofs.YtjbemleloffafaaGreatDoor.V

/- Rules: contracts: holds, versions, keys, rules' form. -/
namespace Go.Proofs.YtjbemleloffafaaGreatDoor.V
open Go
set_option maxRecDepth 100000
set_option linter.unusedVariables false
set_option linter.unusedSimpArgs false
section
variable {Γ : Ctx} {g : FuncId}
theorem spDt_ok {u : TypeId} {c : D → Bool} {f : D → Int → AV} (h : ∀ x n, c x = true → RetX Γ g [.d u x, .i .i64 n] [] (f x n) []) : SpecOK Γ ⟨g, dat (spDt u c f)⟩ := dat_ok fun args r hr => by
  unfold spDt at hr
  split at hr
  · simp only [Option.some.injEq, Prod.mk.injEq, Bool.and_eq_true] at hr
    obtain ⟨⟨h1, h2⟩, rfl⟩ := hr
    obtain rfl := beq_id h1
    exact h _ _ h2
  · exact absurd hr (by simp)
theorem spDu_ok {u : TypeId} {c : D → Bool} {f : D → Int → AV} (h : ∀ x n, c x = true → RetX Γ g [.d u x, .i .u64 n] [] (f x n) []) : SpecOK Γ ⟨g, dat (spDu u c f)⟩ := dat_ok fun args r hr => by
  unfold spDu at hr
  split at hr
  · simp only [Option.some.injEq, Prod.mk.injEq, Bool.and_eq_true] at hr
    obtain ⟨⟨h1, h2⟩, rfl⟩ := hr
    obtain rfl := beq_id h1
    exact h _ _ h2
  · exact absurd hr (by simp)
theorem spClamp_ok (h : ∀ n, RetX Γ g [.i .i64 n] [] (.i .i64 (clampZ n)) []) : SpecOK Γ ⟨g, dat spClamp⟩ := dat_ok fun args r hr => by
  unfold spClamp at hr
  split at hr
  · simp only [Option.some.injEq, Prod.mk.injEq] at hr
    obtain ⟨h1, rfl⟩ := hr
    exact h _
  · exact absurd hr (by simp)
theorem spLD_ok {u v : TypeId} {c : List D → D → Bool} {f : List D → D → AV} (h : ∀ l x, c l x = true → RetX Γ g [.sl u .any l, .d v x] [] (f l x) []) : SpecOK Γ ⟨g, dat (spLD u v c f)⟩ := dat_ok fun args r hr => by
  unfold spLD at hr
  split at hr
  · simp only [Option.some.injEq, Prod.mk.injEq, Bool.and_eq_true] at hr
    obtain ⟨⟨h1, h2, h3⟩, rfl⟩ := hr
    obtain rfl := beq_id h1
    obtain rfl := beq_id h2
    exact (h _ _ h3).anyc
  · exact absurd hr (by simp)
theorem spLDt_ok {u v : TypeId} {c : List D → D → Bool} {f : List D → D → Int → AV} (h : ∀ l x n, c l x = true → RetX Γ g [.sl u .any l, .d v x, .i .i64 n] [] (f l x n) []) : SpecOK Γ ⟨g, dat (spLDt u v c f)⟩ := dat_ok fun args r hr => by
  unfold spLDt at hr
  split at hr
  · simp only [Option.some.injEq, Prod.mk.injEq, Bool.and_eq_true] at hr
    obtain ⟨⟨h1, h2, h3⟩, rfl⟩ := hr
    obtain rfl := beq_id h1
    obtain rfl := beq_id h2
    exact (h _ _ _ h3).anyc
  · exact absurd hr (by simp)
end
variable {mx : Int}
theorem c90 (d : D) (t : Int) (h : isLk d = true) : RetX (Γ mx) 77 [.d 45 d, .i .i64 t] [] (.b (bindsD d t)) [] := by
  obtain ⟨a, b, c, rfl⟩ := isLk_ex h
  refine ret_goes (Γ := Γ mx) hP hZ none_ok (by kernel_rfl) ⟨0, ?_⟩
  rw [r90, bindsD]
  cases a != 0 <;> rfl
theorem h63_ok : CallsOK (Γ mx) H63 := specs_ok (.cons (spDt_ok c90) .nil)
theorem c63 (d : D) (t : Int) (h : isLk d = true) : RetX (Γ mx) 50 [.d 45 d, .i .i64 t] [] (.b (heldD d t)) [] := by
  obtain ⟨a, b, c, rfl⟩ := isLk_ex h
  refine ret_goes (Γ := Γ mx) hP hZ h63_ok (by kernel_rfl) ⟨0, ?_⟩
  rw [r63, heldD]
  cases c <;> rfl
theorem c156 (n : Int) : RetX (Γ mx) 119 [.i .i64 n] [] (.i .i64 (clampZ n)) [] := ret_goes (Γ := Γ mx) hP hZ none_ok (by kernel_rfl) ⟨0, by rw [r156]; rfl⟩
theorem h157_ok : CallsOK (Γ mx) H157 := specs_ok (.cons (spClamp_ok c156) .nil)
theorem c157 (d : D) (h : isLk d = true) : RetX (Γ mx) 120 [.d 45 d] [] (.b (lkB d)) [] := by
  obtain ⟨a, b, c, rfl⟩ := isLk_ex h
  refine ret_goes (Γ := Γ mx) hP hZ h157_ok (by kernel_rfl) ⟨0, ?_⟩
  rw [r157, lkB]
  cases a == 0 <;> cases a == 1 <;> cases a == 2 <;> rfl
theorem h145_ok : CallsOK (Γ mx) H145 := specs_ok (.cons (spClamp_ok c156) (.cons (spD1_ok c157) (.cons (spL1s_ok c26) .nil)))
theorem c145 (d : D) (h : vC d = true) : RetX (Γ mx) 95 [.d 54 d] [] (.b (vGood d)) [] := by
  obtain ⟨v, rfl, ht⟩ := vC_ex h
  refine ret_goes (Γ := Γ mx) hP hZ h145_ok (by kernel_rfl) ⟨0, ?_⟩
  show evF (Γ mx) H145 _ 95 [.d 54 (D.agg [D.int .u64 v.id, D.bool v.mr, D.int .i64 v.sz, D.int .u64 v.bl, D.agg v.dg, D.int .i64 v.cr, D.agg [D.int .i64 v.md, D.int .i64 v.un, D.bool v.ho], D.slice v.c v.tg])] [] = some (AV.b (goodV v), [])
  rw [r145, ht, goodV]
  show (bif v.id == 0 then _ else bif v.cr != clampZ v.cr then _ else bif v.mr then (bif v.sz == 0 then (bif v.bl == 0 then (bif eqD (D.agg v.dg) dg0 then (bif eqD (lkV v) lk0 then _ else _) else _) else _) else _) else (bif decide (v.sz ≥ 0) then (bif decide (v.sz ≤ 16384) then (bif decide (v.bl > 0) then (bif true then (bif lkB (lkV v) then (bif true then _ else _) else _) else _) else _) else _) else _)) = _
  cases v.id == 0 <;> cases v.cr != clampZ v.cr <;> cases v.mr <;> first | rfl | skip
  · cases decide (v.sz ≥ 0) <;> cases decide (v.sz ≤ 16384) <;> cases decide (v.bl > 0) <;> cases lkB (lkV v) <;> rfl
  · cases v.sz == 0 <;> cases v.bl == 0 <;> cases eqD (D.agg v.dg) dg0 <;> cases eqD (lkV v) lk0 <;> rfl
theorem c146 (d e : D) (h : (vC d && vC e) = true) : RetX (Γ mx) 96 [.d 54 d, .d 54 e] [] (.b (behD d e)) [] := by
  simp only [Bool.and_eq_true] at h
  obtain ⟨v, rfl, _⟩ := vC_ex h.1
  obtain ⟨p, rfl, _⟩ := vC_ex h.2
  refine ret_goes (Γ := Γ mx) hP hZ none_ok (by kernel_rfl) ⟨0, ?_⟩
  refine (r146 (mx := mx) (runS []) _ v.id v.mr v.sz v.bl v.dg v.cr v.md v.un v.ho v.c v.tg p.id p.mr p.sz p.bl p.dg p.cr p.md p.un p.ho p.c p.tg).trans ?_
  show _ = some (AV.b (decide (v.id > p.id) && decide (v.cr ≥ p.cr)), [])
  cases decide (v.id > p.id) <;> rfl
theorem h121_ok : CallsOK (Γ mx) H121 := specs_ok (.cons (sp1_ok c82) .nil)
theorem c121 (s : List UInt8) (h : short s = true) : RetX (Γ mx) 71 [.s s] [] (.b (keyB s)) [] := by
  refine ret_goes (Γ := Γ mx) hP hZ h121_ok (by kernel_rfl) ⟨0, ?_⟩
  rw [r121, keyB, h, show decide ((s.length : Int) ≤ 200) = decide (s.length ≤ 200) from i64_le _ 200]
  cases s == [] <;> cases decide (s.length ≤ 200) <;> rfl
theorem h122_ok : CallsOK (Γ mx) H122 := specs_ok (.cons (spD1_ok c145) (.cons (spDD_ok c146) .nil))
def prevO : List D → Option Ver
  | [] => none
  | d :: r => match prevO r with | some x => some x | none => vOf d
theorem prevO_app (p : List D) (v : Ver) : prevO (p ++ [vD v]) = some v := by
  induction p with
  | nil => rfl
  | cons d p ih => rw [List.cons_append, prevO, ih]
theorem g122 (l : List D) (hl : l.length ≤ 8388608) (ha : l.all vC = true) : ∀ (rest : List Ver) (pre : List D) (i : Int), l = pre ++ rest.map vD → i = (pre.length : Int) →
    Goes (Γ mx) H122 72 2 ⟨[(0, .sl 54 .any l), (5, .sl 54 .any l), (6, .i .i64 (l.length : Int)), (7, .i .i64 i)], []⟩ (.b (ris1 (prevO pre) rest), [])
  | [], pre, i, he, hi => by
    subst hi
    refine Goes.step ⟨0, ?_⟩
    rw [r122_2a, decide_eq_false (show ¬ (pre.length : Int) < (l.length : Int) by rw [he]; simp)]
    cases prevO pre <;> rfl
  | v :: r, pre, i, he, hi => by
    subst hi
    have hlen : l.length = pre.length + (r.length + 1) := by rw [he]; simp
    have hs : vC (vD v) = true := List.all_eq_true.1 ha _ (by rw [he]; simp)
    have hid : ∀ {R : Type} (K : D → Option R), idx l (pre.length : Int) K = K (vD v) := fun K => by rw [he]; exact idx_mid pre (r.map vD) _ K
    have hw : IntKind.wrap .i64 ((pre.length : Int) + 1) = (pre.length : Int) + 1 := wrapI (by omega) (by omega)
    obtain ⟨n, hn⟩ := g122 l hl ha r (pre ++ [vD v]) ((pre.length : Int) + 1) (by rw [he]; simp) (by simp)
    rw [prevO_app] at hn
    refine Goes.step ⟨n, ?_⟩
    rw [r122_2a, decide_eq_true (show (pre.length : Int) < (l.length : Int) by omega), cond_true, hid, hw]
    show (bif vC (vD v) then (bif !vGood (vD v) then _ else _) else _) = _
    rw [hs, cond_true, show vGood (vD v) = goodV v from rfl]
    rcases List.eq_nil_or_concat pre with rfl | ⟨q, x, rfl⟩
    · show _ = some (AV.b (goodV v && ris1 (some v) r), [])
      cases goodV v with
      | false => rfl
      | true => exact hn
    · rw [List.concat_eq_append] at *
      have hsp : vC x = true := List.all_eq_true.1 ha x (by rw [he]; simp)
      obtain ⟨p, rfl, _⟩ := vC_ex hsp
      rw [prevO_app]
      have hw2 : IntKind.wrap .i64 (((q ++ [vD p]).length : Int) - 1) = (q.length : Int) := by rw [wrapI (by omega) (by simp at hlen ⊢; omega)]; simp
      have hid2 : ∀ {R : Type} (K : D → Option R), idx l (q.length : Int) K = K (vD p) := fun K => by rw [he, List.append_assoc]; exact idx_mid q _ _ K
      rw [decide_eq_true (show (((q ++ [vD p]).length : Int)) > 0 by simp <;> omega), cond_true, hw2, hid2]
      show _ = some (AV.b (goodV v && (behV v p && ris1 (some v) r)), [])
      cases goodV v with
      | false => rfl
      | true =>
        show (bif vC (vD v) && vC (vD p) then (bif !behV v p then _ else _) else _) = _
        rw [hs, hsp]
        cases behV v p with
        | false => rfl
        | true => exact hn
theorem vsC_eq {l : List D} (h : vsC l = true) : l.length ≤ 8388608 ∧ l.all vC = true := by simpa [vsC] using h
theorem c122 (l : List D) (h : vsC l = true) : RetX (Γ mx) 72 [.sl 54 .any l] [] (.b (risB l)) [] := by
  obtain ⟨h1, h2⟩ := vsC_eq h
  obtain ⟨vs, e1, e2⟩ := vs_ex h2
  obtain ⟨n, hn⟩ := g122 (mx := mx) l h1 h2 vs [] 0 e1 rfl
  refine ret_goes (Γ := Γ mx) hP hZ h122_ok (by kernel_rfl) ⟨n, ?_⟩
  rw [r122, risB, e2]; exact hn
theorem h88_ok : CallsOK (Γ mx) H88 := specs_ok (.cons (sp1_ok c121) (.cons (spL1_ok c122) .nil))
theorem len_pos (n : Nat) : decide ((n : Int) > 0) = decide (0 < n) := decide_eq_decide.2 (by omega)
theorem c88 (o : D) (h : oC o = true) : RetX (Γ mx) 42 [.d 24 o] [] (.b (oSnd o)) [] := by
  obtain ⟨k, c, l, rfl, h1, h2⟩ := oC_ex h
  refine ret_goes (Γ := Γ mx) hP hZ h88_ok (by kernel_rfl) ⟨0, ?_⟩
  rw [r88, h1, h2, len_pos]
  show _ = some (AV.b (keyB k && (decide (0 < l.length) && risB l)), [])
  cases keyB k <;> cases decide (0 < l.length) <;> rfl
theorem c128 (a b : List UInt8) (_ : true = true) : RetX (Γ mx) 79 [.s a, .s b] [] (.b (hpB a b)) [] := by
  refine ret_goes (Γ := Γ mx) hP hZ none_ok (by kernel_rfl) ⟨0, ?_⟩
  rw [r128, hpB, show decide ((a.length : Int) ≥ (b.length : Int)) = decide (b.length ≤ a.length) from decide_eq_decide.2 (by omega), decide_eq_true (show (0 : Int) ≤ (b.length : Int) by omega)]
  cases decide (b.length ≤ a.length) <;> rfl
theorem h95_ok : CallsOK (Γ mx) H95 := specs_ok (.cons (sp2_ok c128) .nil)
theorem c95 (a b : List UInt8) (_ : true = true) : RetX (Γ mx) 52 [.s a, .s b] [] (.b (hpB a b)) [] := ret_goes (Γ := Γ mx) hP hZ h95_ok (by kernel_rfl) ⟨0, by rw [r95]⟩
theorem h93_ok : CallsOK (Γ mx) H93 := specs_ok (.cons (sp1_ok c82) (.cons (spL1s_ok c26) .nil))
theorem c93 (d : D) (h : rC d = true) : RetX (Γ mx) 22 [.d 35 d] [] (.b (rGood d)) [] := by
  obtain ⟨p, c, t, a, b, m, rfl, h1, h2⟩ := rC_ex h
  refine ret_goes (Γ := Γ mx) hP hZ h93_ok (by kernel_rfl) ⟨0, ?_⟩
  rw [r93, rGood, h1, h2, show decide ((p.length : Int) ≤ 200) = decide (p.length ≤ 200) from i64_le _ 200]
  cases decide (p.length ≤ 200) <;> cases cleanV p <;> first | rfl | skip
  cases tsB t <;> cases decide (a ≥ 0) <;> cases decide (a ≤ 36500) <;> cases decide (b ≥ 0) <;> rfl
theorem h120_ok : CallsOK (Γ mx) H120 := specs_ok (.cons (spD1_ok c93) .nil)
theorem c120 (d : D) (h : rC d = true) : RetX (Γ mx) 70 [.d 35 d] [] (.b (!rGood d)) [] := by
  obtain ⟨p, c, t, a, b, m, rfl, _, _⟩ := rC_ex h
  refine ret_goes (Γ := Γ mx) hP hZ h120_ok (by kernel_rfl) ⟨0, ?_⟩
  rw [r120, h]; rfl
theorem h144_ok : CallsOK (Γ mx) H144 := specs_ok (.cons (spD1_ok c120) .nil)
theorem rsC_eq {l : List D} (h : rsC l = true) : l.length ≤ 8388608 ∧ l.all rC = true := by simpa [rsC] using h
theorem g144 (l : List D) (hl : l.length ≤ 8388608) (ha : l.all rC = true) : ∀ (rest pre : List D) (i : Int), l = pre ++ rest → i = (pre.length : Int) →
    Goes (Γ mx) H144 94 2 ⟨[(0, .sl 35 .any l), (1, .fn 70 []), (7, .i .i64 (l.length : Int)), (8, .i .i64 i)], []⟩ (.i .i64 (rsN rest i), [])
  | [], pre, i, he, hi => by
    subst hi
    refine Goes.step ⟨0, ?_⟩
    rw [r144_2a, decide_eq_false (show ¬ (pre.length : Int) < (l.length : Int) by rw [he]; simp)]
    rfl
  | x :: r, pre, i, he, hi => by
    subst hi
    have hlen : l.length = pre.length + (r.length + 1) := by rw [he]; simp
    have hs : rC x = true := List.all_eq_true.1 ha _ (by rw [he]; simp)
    obtain ⟨p, c, t, a, b, m, rfl, _, _⟩ := rC_ex hs
    have hid : ∀ {R : Type} (K : D → Option R), idx l (pre.length : Int) K = K (D.agg [.str p, .slice c t, .int .i64 a, .int .i64 b, .bool m]) := fun K => by rw [he]; exact idx_mid pre r _ K
    have hw : IntKind.wrap .i64 ((pre.length : Int) + 1) = (pre.length : Int) + 1 := wrapI (by omega) (by omega)
    obtain ⟨n, hn⟩ := g144 l hl ha r (pre ++ [D.agg [.str p, .slice c t, .int .i64 a, .int .i64 b, .bool m]]) ((pre.length : Int) + 1) (by rw [he]; simp) (by simp)
    refine Goes.step ⟨n, ?_⟩
    rw [r144_2a, decide_eq_true (show (pre.length : Int) < (l.length : Int) by omega), cond_true, hid, hw]
    show (bif rC (D.agg [.str p, .slice c t, .int .i64 a, .int .i64 b, .bool m]) then (bif !rGood (D.agg [.str p, .slice c t, .int .i64 a, .int .i64 b, .bool m]) then _ else _) else _) = _
    rw [hs, cond_true, rsN]
    cases rGood (D.agg [.str p, .slice c t, .int .i64 a, .int .i64 b, .bool m]) with
    | false => rfl
    | true => exact hn
theorem c144 (l : List D) (h : rsC l = true) : RetX (Γ mx) 94 [.sl 35 .any l, .fn 70 []] [] (.i .i64 (rsI l)) [] := by
  obtain ⟨h1, h2⟩ := rsC_eq h
  obtain ⟨n, hn⟩ := g144 (mx := mx) l h1 h2 l [] 0 rfl rfl
  exact ret_goes (Γ := Γ mx) hP hZ h144_ok (by kernel_rfl) ⟨n, by rw [r144]; exact hn⟩
theorem h119_ok : CallsOK (Γ mx) H119 := specs_ok (.cons (spLF_ok c144) .nil)
theorem c119 (l : List D) (h : rsC l = true) : RetX (Γ mx) 69 [.sl 35 .any l, .fn 70 []] [] (.b (!rsA l)) [] := by
  refine ret_goes (Γ := Γ mx) hP hZ h119_ok (by kernel_rfl) ⟨0, ?_⟩
  rw [r119, h, cond_true, rsI, rsN_all l 0 (by omega)]
theorem h87_ok : CallsOK (Γ mx) H87 := specs_ok (.cons (spLF_ok c119) .nil)
theorem c87 (l : List D) (h : rsC l = true) : RetX (Γ mx) 41 [.sl 35 .any l] [] (.b (rsB l)) [] := by
  refine ret_goes (Γ := Γ mx) hP hZ h87_ok (by kernel_rfl) ⟨0, ?_⟩
  rw [r87, h, rsB, show decide ((l.length : Int) ≤ 8) = decide (l.length ≤ 8) from i64_le _ 8, cond_true, Bool.not_not]
  cases decide (l.length ≤ 8) <;> rfl
/-! ### the latest -/
theorem h152_ok : CallsOK (Γ mx) H152 := specs_ok (.cons xClone_ok (.cons (spL1_ok c53) .nil))
theorem c152 (l : List D) (h : tC l = true) : RetX (Γ mx) 101 [.sl 84 .any l] [] (.sl 84 .cl l) [] := by
  cases l with
  | nil => exact ret_goes (Γ := Γ mx) hP hZ h152_ok (by kernel_rfl) ⟨0, by rw [nr152]⟩
  | cons x r => exact ret_goes (Γ := Γ mx) hP hZ h152_ok (by kernel_rfl) ⟨0, by rw [r152, h]; rfl⟩
theorem h127_ok : CallsOK (Γ mx) H127 := specs_ok (.cons (spL1_ok c152) .nil)
theorem c127 (d : D) (h : vC d = true) : RetX (Γ mx) 78 [.d 54 d] [] (.d 54 (cloneD d)) [] := by
  obtain ⟨v, rfl, ht⟩ := vC_ex h
  refine ret_goes (Γ := Γ mx) hP hZ h127_ok (by kernel_rfl) ⟨0, ?_⟩
  refine (r127 (mx := mx) _ v.id v.mr v.sz v.bl v.dg v.cr v.md v.un v.ho v.c v.tg).trans ?_
  rw [ht]; rfl
theorem h94_ok : CallsOK (Γ mx) H94 := specs_ok (.cons (spD1_ok c88) (.cons (spD1_ok c127) .nil))
theorem snd_pos {k : List UInt8} {c : Cp} {l : List D} (h : oSnd (.agg [.str k, .slice c l]) = true) : 0 < l.length := by
  unfold oSnd at h
  simp only [Bool.and_eq_true, decide_eq_true_eq] at h
  exact h.2.1
theorem last_ex {l : List D} (h : 0 < l.length) (ha : l.all vC = true) : ∃ q v, l = q ++ [vD v] ∧ tC v.tg = true := by
  rcases List.eq_nil_or_concat l with rfl | ⟨q, x, rfl⟩
  · exact absurd h (by simp)
  · rw [List.concat_eq_append] at *
    obtain ⟨v, rfl, ht⟩ := vC_ex (List.all_eq_true.1 ha x (by simp))
    exact ⟨q, v, rfl, ht⟩
theorem getD_last (q : List D) (x z : D) : (q ++ [x]).getD ((q ++ [x]).length - 1) z = x := by
  rw [List.length_append, List.length_singleton, Nat.add_sub_cancel]; simp
theorem getD_mid (q r : List D) (x z : D) : (q ++ x :: r).getD q.length z = x := by simp [List.getD]
theorem c94 (o : D) (h : oC o = true) : RetX (Γ mx) 51 [.d 24 o] [] (.tuple [.d 54 (latD o), .i .i64 (latE o)]) [] := by
  obtain ⟨k, c, l, rfl, h1, h2⟩ := oC_ex h
  obtain ⟨hl, ha⟩ := vsC_eq h2
  refine ret_goes (Γ := Γ mx) hP hZ h94_ok (by kernel_rfl) ⟨0, ?_⟩
  rw [r94, h, cond_true, latD, latE]
  cases hs : oSnd (.agg [.str k, .slice c l]) with
  | false => rfl
  | true =>
    obtain ⟨q, v, rfl, ht⟩ := last_ex (snd_pos hs) ha
    have hw : IntKind.wrap .i64 (((q ++ [vD v]).length : Int) - 1) = (q.length : Int) := by rw [wrapI (by omega) (by simp at hl ⊢; omega)]; simp
    have hid : ∀ {R : Type} (K : D → Option R), idx (q ++ [vD v]) (q.length : Int) K = K (vD v) := fun K => idx_mid q [] _ K
    simp only [Bool.not_true, cond_false, cond_true]
    rw [hw, hid]
    rw [show (oVs (.agg [.str k, .slice c (q ++ [vD v])])) = q ++ [vD v] from rfl, getD_last]
    show (bif vC (vD v) then _ else _) = _
    rw [List.all_eq_true.1 ha (vD v) (by simp)]
    rfl
theorem h65_ok : CallsOK (Γ mx) H65 := specs_ok (.cons (spD1_ok c94) (.cons (sp2_ok c95) (.cons (spLL_ok c30) .nil)))
theorem latD_ex (o : D) (h : oC o = true) : ∃ v, latD o = vD v ∧ tC v.tg = true := by
  obtain ⟨k, c, l, rfl, h1, h2⟩ := oC_ex h
  obtain ⟨hl, ha⟩ := vsC_eq h2
  unfold latD
  cases hs : oSnd (.agg [.str k, .slice c l]) with
  | false => exact ⟨⟨0, false, 0, 0, _, 0, 0, 0, false, .nl, []⟩, rfl, rfl⟩
  | true =>
    obtain ⟨q, v, rfl, ht⟩ := last_ex (snd_pos hs) ha
    rw [cond_true, show (oVs (.agg [.str k, .slice c (q ++ [vD v])])) = q ++ [vD v] from rfl, getD_last]
    exact ⟨{ v with c := .cl }, rfl, ht⟩
theorem c65 (r o : D) (h : (rC r && oC o) = true) : RetX (Γ mx) 21 [.d 35 r, .d 24 o] [] (.b (meantD r o)) [] := by
  simp only [Bool.and_eq_true] at h
  obtain ⟨p, c, t, a, b, m, rfl, _, ht⟩ := rC_ex h.1
  obtain ⟨v, hv, hvt⟩ := latD_ex o h.2
  have ho := h.2
  obtain ⟨k, c', l, rfl, _, _⟩ := oC_ex h.2
  refine ret_goes (Γ := Γ mx) hP hZ h65_ok (by kernel_rfl) ⟨0, ?_⟩
  rw [r65, ho, cond_true, meantD, hv]
  show (bif latE (.agg [.str k, .slice c' l]) == 0 then (bif hpB k p then (bif tC t && tC v.tg then _ else _) else _) else _) = some (AV.b (latE (.agg [.str k, .slice c' l]) == 0 && (hpB k p && withinB t v.tg)), [])
  rw [ht, hvt]
  cases latE (.agg [.str k, .slice c' l]) == 0 <;> cases hpB k p <;> rfl
/-! ### the place -/
theorem c148 (d : D) (i : Int) (h : vC d = true) : RetX (Γ mx) 98 [.d 54 d, .ptr 0 [] 29] [some (.box 29 (.i .u64 i))] (.b (vIs d i)) [some (.box 29 (.i .u64 i))] := by
  obtain ⟨v, rfl, ht⟩ := vC_ex h
  exact ret_goes (Γ := Γ mx) hP hZ none_ok (by kernel_rfl) ⟨0, r148 (mx := mx) (runS []) _ v.id v.mr v.sz v.bl v.dg v.cr v.md v.un v.ho v.c v.tg i⟩
theorem xIs_ok : SpecOK (Γ mx) ⟨98, xIs⟩ := by
  intro args obs r obs' hr
  change xIs args obs = some (true, r, obs') at hr
  unfold xIs at hr
  split at hr
  · simp only [Option.some.injEq, Prod.mk.injEq, Bool.and_eq_true] at hr
    obtain ⟨⟨h1, h2, h3, h4⟩, rfl, rfl⟩ := hr
    obtain rfl := beq_id h1
    obtain rfl := beq_id h2
    obtain rfl := beq_id h3
    exact c148 _ _ h4
  · exact absurd hr (by simp)
theorem h147_ok : CallsOK (Γ mx) H147 := specs_ok (.cons xIs_ok .nil)
theorem g147 (l : List D) (j : Int) (hl : l.length ≤ 8388608) (ha : l.all vC = true) : ∀ (rest pre : List D) (i : Int), l = pre ++ rest → i = (pre.length : Int) →
    Goes (Γ mx) H147 97 2 ⟨[(0, .sl 54 .any l), (1, .fn 98 [.ptr 0 [] 29]), (7, .i .i64 (l.length : Int)), (8, .i .i64 i)], [some (.box 29 (.i .u64 j))]⟩ (.i .i64 (plN rest j i), [some (.box 29 (.i .u64 j))])
  | [], pre, i, he, hi => by
    subst hi
    refine Goes.step ⟨0, ?_⟩
    rw [r147_2a, decide_eq_false (show ¬ (pre.length : Int) < (l.length : Int) by rw [he]; simp)]
    rfl
  | x :: r, pre, i, he, hi => by
    subst hi
    have hlen : l.length = pre.length + (r.length + 1) := by rw [he]; simp
    have hs : vC x = true := List.all_eq_true.1 ha _ (by rw [he]; simp)
    obtain ⟨v, rfl, _⟩ := vC_ex hs
    have hid : ∀ {R : Type} (K : D → Option R), idx l (pre.length : Int) K = K (vD v) := fun K => by rw [he]; exact idx_mid pre r _ K
    have hw : IntKind.wrap .i64 ((pre.length : Int) + 1) = (pre.length : Int) + 1 := wrapI (by omega) (by omega)
    obtain ⟨n, hn⟩ := g147 l j hl ha r (pre ++ [vD v]) ((pre.length : Int) + 1) (by rw [he]; simp) (by simp)
    refine Goes.step ⟨n, ?_⟩
    rw [r147_2a, decide_eq_true (show (pre.length : Int) < (l.length : Int) by omega), cond_true, hid, hw]
    show (bif true && vC (vD v) then (bif vIs (vD v) j then _ else _) else _) = _
    rw [hs, Bool.true_and, cond_true, plN]
    cases vIs (vD v) j with
    | true => rfl
    | false => exact hn
theorem c147 (l : List D) (j : Int) (h : vsC l = true) : RetX (Γ mx) 97 [.sl 54 .any l, .fn 98 [.ptr 0 [] 29]] [some (.box 29 (.i .u64 j))] (.i .i64 (plI l j)) [some (.box 29 (.i .u64 j))] := by
  obtain ⟨h1, h2⟩ := vsC_eq h
  obtain ⟨n, hn⟩ := g147 (mx := mx) l j h1 h2 l [] 0 rfl rfl
  exact ret_goes (Γ := Γ mx) hP hZ h147_ok (by kernel_rfl) ⟨n, by rw [r147]; exact hn⟩
theorem xPl_ok : SpecOK (Γ mx) ⟨97, xPl⟩ := by
  intro args obs r obs' hr
  change xPl args obs = some (true, r, obs') at hr
  unfold xPl at hr
  split at hr
  · simp only [Option.some.injEq, Prod.mk.injEq, Bool.and_eq_true] at hr
    obtain ⟨⟨h1, h2, h3, h4, h5⟩, rfl, rfl⟩ := hr
    obtain rfl := beq_id h1
    obtain rfl := beq_id h2
    obtain rfl := beq_id h3
    obtain rfl := beq_id h4
    exact (c147 _ _ h5).anyc
  · exact absurd hr (by simp)
theorem h123_ok : CallsOK (Γ mx) H123 := specs_ok (.cons xPl_ok .nil)
theorem c123 (o : D) (i : Int) (h : oC o = true) : RetX (Γ mx) 73 [.d 24 o, .i .u64 i] [] (.i .i64 (plO o i)) [] := by
  obtain ⟨k, c, l, rfl, h1, h2⟩ := oC_ex h
  refine ret_goes (Γ := Γ mx) hP hZ h123_ok (by kernel_rfl) ⟨0, ?_⟩
  rw [r123, h2]; rfl
theorem h89_ok : CallsOK (Γ mx) H89 := specs_ok (.cons (spD1_ok c88) (.cons (spDu_ok c123) .nil))
theorem plN_range : ∀ (l : List D) (i k : Int), 0 ≤ k → plN l i k = -1 ∨ (k ≤ plN l i k ∧ plN l i k < k + l.length)
  | [], _, _, _ => .inl rfl
  | d :: r, i, k, h => by
    rw [plN]
    cases vIs d i with
    | true => rw [cond_true]; exact .inr ⟨by omega, by simp only [List.length_cons]; omega⟩
    | false =>
      rw [cond_false]
      rcases plN_range r i (k + 1) (by omega) with h1 | h1
      · exact .inl h1
      · exact .inr ⟨by omega, by simp only [List.length_cons]; omega⟩
theorem mid_ex {l : List D} (ha : l.all vC = true) {n : Nat} (h : n < l.length) : ∃ q v r, l = q ++ vD v :: r ∧ q.length = n := by
  obtain ⟨v, hv, _⟩ := vC_ex (List.all_eq_true.1 ha _ (List.getElem_mem h))
  refine ⟨l.take n, v, l.drop (n + 1), ?_, by rw [List.length_take]; omega⟩
  rw [← hv, List.getElem_cons_drop, List.take_append_drop]
theorem c89 (o : D) (i : Int) (h : oC o = true) : RetX (Γ mx) 43 [.d 24 o, .i .u64 i] [] (.tuple [.i .i64 (replT o i), .b (replB o i)]) [] := by
  obtain ⟨k, c, l, rfl, h1, h2⟩ := oC_ex h
  obtain ⟨hl, ha⟩ := vsC_eq h2
  refine ret_goes (Γ := Γ mx) hP hZ h89_ok (by kernel_rfl) ⟨0, ?_⟩
  rw [r89, h, cond_true, cond_true, replT, replB]
  cases hs : oSnd (.agg [.str k, .slice c l]) with
  | false => rfl
  | true =>
    have hp := snd_pos hs
    rw [show oVs (.agg [.str k, .slice c l]) = l from rfl, wrapI (n := (l.length : Int) - 1) (by omega) (by omega)]
    rcases plN_range l i 0 (by omega) with e | e
    · have e : plO (.agg [.str k, .slice c l]) i = -1 := e
      rw [e]; rfl
    · have e : 0 ≤ plO (.agg [.str k, .slice c l]) i ∧ plO (.agg [.str k, .slice c l]) i < 0 + l.length := e
      generalize plO (.agg [.str k, .slice c l]) i = z at e ⊢
      rw [decide_eq_false (show ¬ z < 0 by omega)]
      by_cases hz : z = (l.length : Int) - 1
      · rw [hz]; simp
      · have hz' : (z == (l.length : Int) - 1) = false := beq_eq_false_iff_ne.2 hz
        obtain ⟨q, v, r, rfl, hq⟩ := mid_ex ha (n := (z + 1).toNat) (by omega)
        have hw : IntKind.wrap .i64 (z + 1) = (q.length : Int) := by rw [wrapI (by omega) (by omega)]; omega
        rw [hz', hw, ← hq]
        simp only [Bool.not_true, Bool.not_false, cond_false, cond_true, Bool.and_true, getD_mid]
        rw [idx_mid q r]
        rfl
theorem h61_ok : CallsOK (Γ mx) H61 := specs_ok (.cons (spL1_ok c87) (.cons (spD1_ok c88) .nil))
theorem c61 (l : List D) (o : D) (h : (rsC l && oC o) = true) : RetX (Γ mx) 14 [.sl 35 .any l, .d 24 o] [] (.b (goodB l o)) [] := by
  simp only [Bool.and_eq_true] at h
  have ho := h.2
  obtain ⟨k, c', l', rfl, _, _⟩ := oC_ex h.2
  refine ret_goes (Γ := Γ mx) hP hZ h61_ok (by kernel_rfl) ⟨0, ?_⟩
  rw [r61, goodB, h.1, ho]
  cases rsB l <;> rfl
end Go.Proofs.YtjbemleloffafaaGreatDoor.V

/- Rules: contracts: the events, what is due; the law's function. -/
namespace Go.Proofs.YtjbemleloffafaaGreatDoor.V
open Go
set_option maxRecDepth 100000
set_option linter.unusedVariables false
set_option linter.unusedSimpArgs false
variable {mx : Int}
theorem room40 {n : Nat} (h : n ≤ 200000000) : roomB n 40 = true := by
  unfold roomB
  simp only [Bool.and_eq_true, decide_eq_true_eq]
  exact ⟨rfl, by omega⟩
theorem h62_ok : CallsOK (Γ mx) H62 := specs_ok (.cons (spDD_ok c65) (.cons (spDu_ok c89) .nil))
def resE : List D → AV × Objs
  | [] => (.snil, [])
  | e :: E => (.sl 47 .any (e :: E), [])
def st18 (rl : List D) (o : D) (nv : D) (j : Int) : List D → St
  | [] => ⟨[(3, .ptr 0 [] 24), (5, .snil), (6, .ptr 1 [] 54), (95, .sl 35 .any rl), (96, .i .i64 (rl.length : Int)), (97, .i .i64 j)], [some (.box 24 (.d 24 o)), some (.box 54 (.d 54 nv))]⟩
  | e :: E => ⟨[(3, .ptr 0 [] 24), (5, .ref 47 1), (6, .ptr 2 [] 54), (95, .sl 35 .any rl), (96, .i .i64 (rl.length : Int)), (97, .i .i64 j)], [some (.box 24 (.d 24 o)), some (.arr 47 (e :: E) false), some (.box 54 (.d 54 nv))]⟩
def st4 (rl : List D) (o : D) (nv : D) (c : Cp) (l : List D) (i : Int) : List D → St
  | [] => ⟨[(0, .sl 35 .any rl), (3, .ptr 0 [] 24), (5, .snil), (6, .ptr 1 [] 54), (24, .sl 54 c l), (25, .i .i64 (l.length : Int)), (26, .i .i64 i)], [some (.box 24 (.d 24 o)), some (.box 54 (.d 54 nv))]⟩
  | e :: E => ⟨[(0, .sl 35 .any rl), (3, .ptr 0 [] 24), (5, .ref 47 1), (6, .ptr 2 [] 54), (24, .sl 54 c l), (25, .i .i64 (l.length : Int)), (26, .i .i64 i)], [some (.box 24 (.d 24 o)), some (.arr 47 (e :: E) false), some (.box 54 (.d 54 nv))]⟩
def st8 (rl : List D) (o : D) (nv : D) (c : Cp) (l : List D) (i : Int) (v : D) (tm : Int) (rp : Bool) (j : Int) : List D → St
  | [] => ⟨[(0, .sl 35 .any rl), (3, .ptr 0 [] 24), (5, .snil), (6, .ptr 1 [] 54), (8, .ptr 2 [] 54), (9, .i .i64 tm), (10, .b rp), (24, .sl 54 c l), (25, .i .i64 (l.length : Int)), (26, .i .i64 i), (37, .sl 35 .any rl), (38, .i .i64 (rl.length : Int)), (39, .i .i64 j)], [some (.box 24 (.d 24 o)), some (.box 54 (.d 54 nv)), some (.box 54 (.d 54 v))]⟩
  | e :: E => ⟨[(0, .sl 35 .any rl), (3, .ptr 0 [] 24), (5, .ref 47 1), (6, .ptr 2 [] 54), (8, .ptr 3 [] 54), (9, .i .i64 tm), (10, .b rp), (24, .sl 54 c l), (25, .i .i64 (l.length : Int)), (26, .i .i64 i), (37, .sl 35 .any rl), (38, .i .i64 (rl.length : Int)), (39, .i .i64 j)], [some (.box 24 (.d 24 o)), some (.arr 47 (e :: E) false), some (.box 54 (.d 54 nv)), some (.box 54 (.d 54 v))]⟩
theorem ev2_eq (E : List D) (o : D) (v : Ver) (p : List UInt8) (c : Cp) (t : List D) (a b : Int) (m : Bool) : E ++ ev2 o v (.agg [.str p, .slice c t, .int .i64 a, .int .i64 b, .bool m]) =
    bif meantD (.agg [.str p, .slice c t, .int .i64 a, .int .i64 b, .bool m]) o then (bif decide (a > 0) then (bif !v.mr then E ++ [evD (addD v.cr a) 0 lk0] else E) else E) else E := by
  unfold ev2
  rw [show rDays (.agg [.str p, .slice c t, .int .i64 a, .int .i64 b, .bool m]) = a from rfl]
  cases meantD (.agg [.str p, .slice c t, .int .i64 a, .int .i64 b, .bool m]) o <;> cases decide (a > 0) <;> cases v.mr <;> simp
theorem ev2_len (o : D) (v : Ver) (r : D) : (ev2 o v r).length ≤ 1 := by
  unfold ev2
  cases meantD r o && (decide (rDays r > 0) && !v.mr) <;> simp
theorem g18 (rl : List D) (k : List UInt8) (ck : Cp) (ol : List D) (nv : Ver) (hl : rl.length ≤ 8) (ha : rl.all rC = true) (ho : oC (.agg [.str k, .slice ck ol]) = true) : ∀ (rest pre E : List D) (i : Int), rl = pre ++ rest → i = (pre.length : Int) → E.length + rest.length ≤ 100000000 →
    Goes (Γ mx) H62 15 18 (st18 rl (.agg [.str k, .slice ck ol]) (vD nv) i E) (resE (E ++ rest.flatMap (ev2 (.agg [.str k, .slice ck ol]) nv)))
  | [], pre, E, i, he, hi, hE => by
    subst hi
    have hd : decide ((pre.length : Int) < (rl.length : Int)) = false := decide_eq_false (by rw [he]; simp)
    rw [List.flatMap_nil, List.append_nil]
    cases E with
    | nil =>
      refine Goes.step ⟨0, (r62_18a ..).trans ?_⟩
      rw [hd]; rfl
    | cons e E =>
      refine Goes.step ⟨0, (r62_18b ..).trans ?_⟩
      rw [hd]; rfl
  | x :: r, pre, E, i, he, hi, hE => by
    subst hi
    have hlen : rl.length = pre.length + (r.length + 1) := by rw [he]; simp
    simp only [List.length_cons] at hE
    have hs : rC x = true := List.all_eq_true.1 ha _ (by rw [he]; simp)
    have h2 := ev2_len (.agg [.str k, .slice ck ol]) nv x
    obtain ⟨n, hn⟩ := g18 rl k ck ol nv hl ha ho r (pre ++ [x]) (E ++ ev2 (.agg [.str k, .slice ck ol]) nv x) ((pre.length : Int) + 1) (by rw [he]; simp) (by simp) (by rw [List.length_append]; omega)
    rw [List.append_assoc, ← List.flatMap_cons] at hn
    obtain ⟨p, c, t, a, b, m, rfl, _, _⟩ := rC_ex hs
    rw [ev2_eq] at hn
    have hid : ∀ {R : Type} (K : D → Option R), idx rl (pre.length : Int) K = K (.agg [.str p, .slice c t, .int .i64 a, .int .i64 b, .bool m]) := fun K => by rw [he]; exact idx_mid pre r _ K
    have hw : IntKind.wrap .i64 ((pre.length : Int) + 1) = (pre.length : Int) + 1 := wrapI (by omega) (by omega)
    have hd : decide ((pre.length : Int) < (rl.length : Int)) = true := decide_eq_true (by omega)
    have hb : (rC (.agg [.str p, .slice c t, .int .i64 a, .int .i64 b, .bool m]) && oC (.agg [.str k, .slice ck ol])) = true := by rw [hs, ho]; rfl
    obtain ⟨vid, vmr, vsz, vbl, vdg, vcr, vmd, vun, vho, vc, vtg⟩ := nv
    revert hn
    cases E with
    | nil =>
      intro hn
      refine Goes.step ⟨n, (r62_18a ..).trans ?_⟩
      rw [hd, cond_true, hid, hw]
      show (bif rC (.agg [.str p, .slice c t, .int .i64 a, .int .i64 b, .bool m]) && oC (.agg [.str k, .slice ck ol]) then (bif meantD (.agg [.str p, .slice c t, .int .i64 a, .int .i64 b, .bool m]) (.agg [.str k, .slice ck ol]) then (bif decide (a > 0) then (bif !vmr then _ else _) else _) else _) else _) = _
      rw [hb, cond_true]
      revert hn
      generalize resE ([] ++ List.flatMap (ev2 (.agg [.str k, .slice ck ol]) ⟨vid, vmr, vsz, vbl, vdg, vcr, vmd, vun, vho, vc, vtg⟩) (.agg [.str p, .slice c t, .int .i64 a, .int .i64 b, .bool m] :: r)) = R
      cases meantD (.agg [.str p, .slice c t, .int .i64 a, .int .i64 b, .bool m]) (.agg [.str k, .slice ck ol]) <;> cases decide (a > 0) <;> cases vmr <;> exact fun hn => hn
    | cons e E =>
      intro hn
      refine Goes.step ⟨n, (r62_18b ..).trans ?_⟩
      rw [hd, cond_true, hid, hw]
      show (bif rC (.agg [.str p, .slice c t, .int .i64 a, .int .i64 b, .bool m]) && oC (.agg [.str k, .slice ck ol]) then (bif meantD (.agg [.str p, .slice c t, .int .i64 a, .int .i64 b, .bool m]) (.agg [.str k, .slice ck ol]) then (bif decide (a > 0) then (bif !vmr then (bif roomB ((e :: E).length + 1) 40 then _ else _) else _) else _) else _) else _) = _
      rw [hb, cond_true, room40 (by simp only [List.length_cons] at hE ⊢; omega)]
      revert hn
      generalize resE ((e :: E) ++ List.flatMap (ev2 (.agg [.str k, .slice ck ol]) ⟨vid, vmr, vsz, vbl, vdg, vcr, vmd, vun, vho, vc, vtg⟩) (.agg [.str p, .slice c t, .int .i64 a, .int .i64 b, .bool m] :: r)) = R
      cases meantD (.agg [.str p, .slice c t, .int .i64 a, .int .i64 b, .bool m]) (.agg [.str k, .slice ck ol]) <;> cases decide (a > 0) <;> cases vmr <;> exact fun hn => hn
theorem ev1_eq (E : List D) (k : List UInt8) (ck : Cp) (ol : List D) (v : Ver) (p : List UInt8) (c : Cp) (t : List D) (a b : Int) (m : Bool) : E ++ ev1 (.agg [.str k, .slice ck ol]) v (.agg [.str p, .slice c t, .int .i64 a, .int .i64 b, .bool m]) =
    bif !meantD (.agg [.str p, .slice c t, .int .i64 a, .int .i64 b, .bool m]) (.agg [.str k, .slice ck ol]) then E else
      bif replB (.agg [.str k, .slice ck ol]) v.id then (bif decide (b > 0) then E ++ [evD (addD (replT (.agg [.str k, .slice ck ol]) v.id) b) v.id (lkV v)] else E)
      else (bif v.mr then (bif m then (bif (ol.length : Int) == 1 then E ++ [evD (-62135596800) v.id (lkV v)] else E) else E) else E) := by
  unfold ev1
  rw [show rOld (.agg [.str p, .slice c t, .int .i64 a, .int .i64 b, .bool m]) = b from rfl, show rMk (.agg [.str p, .slice c t, .int .i64 a, .int .i64 b, .bool m]) = m from rfl, show oVs (.agg [.str k, .slice ck ol]) = ol from rfl]
  cases meantD (.agg [.str p, .slice c t, .int .i64 a, .int .i64 b, .bool m]) (.agg [.str k, .slice ck ol]) <;> cases replB (.agg [.str k, .slice ck ol]) v.id <;> cases decide (b > 0) <;> cases v.mr <;> cases m <;> cases (ol.length : Int) == 1 <;> simp
theorem ev1_len (o : D) (v : Ver) (r : D) : (ev1 o v r).length ≤ 1 := by
  unfold ev1
  cases meantD r o <;> cases replB o v.id && decide (rOld r > 0) <;> cases !replB o v.id && (v.mr && (rMk r && ((oVs o).length : Int) == 1)) <;> simp
theorem g8 (rl : List D) (k : List UInt8) (ck : Cp) (ol : List D) (nv v : Ver) (c0 : Cp) (i : Int) (R : AV × Objs) (hl : rl.length ≤ 8) (hi0 : 0 ≤ i) (hi1 : i ≤ 8388608) (ha : rl.all rC = true) (ho : oC (.agg [.str k, .slice ck ol]) = true) : ∀ (rest pre E : List D) (j : Int), rl = pre ++ rest → j = (pre.length : Int) → E.length + rest.length ≤ 100000000 →
    Goes (Γ mx) H62 15 4 (st4 rl (.agg [.str k, .slice ck ol]) (vD nv) c0 ol (i + 1) (E ++ rest.flatMap (ev1 (.agg [.str k, .slice ck ol]) v))) R →
    Goes (Γ mx) H62 15 8 (st8 rl (.agg [.str k, .slice ck ol]) (vD nv) c0 ol i (vD v) (replT (.agg [.str k, .slice ck ol]) v.id) (replB (.agg [.str k, .slice ck ol]) v.id) j E) R
  | [], pre, E, j, he, hi, hE => by
    subst hi
    rintro ⟨n, hn⟩
    have hd : decide ((pre.length : Int) < (rl.length : Int)) = false := decide_eq_false (by rw [he]; simp)
    rw [List.flatMap_nil, List.append_nil] at hn
    have hw : IntKind.wrap .i64 (i + 1) = i + 1 := wrapI (by omega) (by omega)
    revert hn
    cases E with
    | nil =>
      intro hn
      refine Goes.step ⟨n, (r62_8a ..).trans ?_⟩
      rw [hd, hw]; exact hn
    | cons e E =>
      intro hn
      refine Goes.step ⟨n, (r62_8b ..).trans ?_⟩
      rw [hd, hw]; exact hn
  | x :: r, pre, E, j, he, hi, hE => by
    subst hi
    intro hg
    have hlen : rl.length = pre.length + (r.length + 1) := by rw [he]; simp
    simp only [List.length_cons] at hE
    have hs : rC x = true := List.all_eq_true.1 ha _ (by rw [he]; simp)
    have h2 := ev1_len (.agg [.str k, .slice ck ol]) v x
    rw [List.flatMap_cons, ← List.append_assoc] at hg
    obtain ⟨n, hn⟩ := g8 rl k ck ol nv v c0 i R hl hi0 hi1 ha ho r (pre ++ [x]) (E ++ ev1 (.agg [.str k, .slice ck ol]) v x) ((pre.length : Int) + 1) (by rw [he]; simp) (by simp) (by rw [List.length_append]; omega) hg
    clear hg
    obtain ⟨p, c, t, a, b, m, rfl, _, _⟩ := rC_ex hs
    rw [ev1_eq] at hn
    have hid : ∀ {R : Type} (K : D → Option R), idx rl (pre.length : Int) K = K (.agg [.str p, .slice c t, .int .i64 a, .int .i64 b, .bool m]) := fun K => by rw [he]; exact idx_mid pre r _ K
    have hw : IntKind.wrap .i64 ((pre.length : Int) + 1) = (pre.length : Int) + 1 := wrapI (by omega) (by omega)
    have hd : decide ((pre.length : Int) < (rl.length : Int)) = true := decide_eq_true (by omega)
    have hb : (rC (.agg [.str p, .slice c t, .int .i64 a, .int .i64 b, .bool m]) && oC (.agg [.str k, .slice ck ol])) = true := by rw [hs, ho]; rfl
    obtain ⟨vid, vmr, vsz, vbl, vdg, vcr, vmd, vun, vho, vc, vtg⟩ := v
    revert hn
    cases E with
    | nil =>
      intro hn
      refine Goes.step ⟨n, (r62_8a ..).trans ?_⟩
      rw [hd, cond_true, hid, hw]
      show (bif rC (.agg [.str p, .slice c t, .int .i64 a, .int .i64 b, .bool m]) && oC (.agg [.str k, .slice ck ol]) then (bif !meantD (.agg [.str p, .slice c t, .int .i64 a, .int .i64 b, .bool m]) (.agg [.str k, .slice ck ol]) then _ else (bif replB (.agg [.str k, .slice ck ol]) vid then (bif decide (b > 0) then _ else _) else _)) else _) = _
      rw [hb, cond_true]
      revert hn
      generalize replT (.agg [.str k, .slice ck ol]) (Ver.id ⟨vid, vmr, vsz, vbl, vdg, vcr, vmd, vun, vho, vc, vtg⟩) = T
      show _ → (bif !meantD (.agg [.str p, .slice c t, .int .i64 a, .int .i64 b, .bool m]) (.agg [.str k, .slice ck ol]) then _ else (bif replB (.agg [.str k, .slice ck ol]) vid then (bif decide (b > 0) then _ else _) else (bif !replB (.agg [.str k, .slice ck ol]) vid then (bif vmr then (bif m then (bif (ol.length : Int) == 1 then _ else _) else _) else _) else _))) = _
      cases meantD (.agg [.str p, .slice c t, .int .i64 a, .int .i64 b, .bool m]) (.agg [.str k, .slice ck ol]) <;> cases replB (.agg [.str k, .slice ck ol]) vid <;> cases decide (b > 0) <;> cases vmr <;> cases m <;> cases (ol.length : Int) == 1 <;> exact fun hn => hn
    | cons e E =>
      intro hn
      refine Goes.step ⟨n, (r62_8b ..).trans ?_⟩
      rw [hd, cond_true, hid, hw]
      show (bif rC (.agg [.str p, .slice c t, .int .i64 a, .int .i64 b, .bool m]) && oC (.agg [.str k, .slice ck ol]) then (bif !meantD (.agg [.str p, .slice c t, .int .i64 a, .int .i64 b, .bool m]) (.agg [.str k, .slice ck ol]) then _ else (bif replB (.agg [.str k, .slice ck ol]) vid then (bif decide (b > 0) then (bif roomB ((e :: E).length + 1) 40 then _ else _) else _) else _)) else _) = _
      rw [hb, cond_true, room40 (by simp only [List.length_cons] at hE ⊢; omega)]
      revert hn
      generalize replT (.agg [.str k, .slice ck ol]) (Ver.id ⟨vid, vmr, vsz, vbl, vdg, vcr, vmd, vun, vho, vc, vtg⟩) = T
      show _ → (bif !meantD (.agg [.str p, .slice c t, .int .i64 a, .int .i64 b, .bool m]) (.agg [.str k, .slice ck ol]) then _ else (bif replB (.agg [.str k, .slice ck ol]) vid then (bif decide (b > 0) then _ else _) else (bif !replB (.agg [.str k, .slice ck ol]) vid then (bif vmr then (bif m then (bif (ol.length : Int) == 1 then _ else _) else _) else _) else _))) = _
      cases meantD (.agg [.str p, .slice c t, .int .i64 a, .int .i64 b, .bool m]) (.agg [.str k, .slice ck ol]) <;> cases replB (.agg [.str k, .slice ck ol]) vid <;> cases decide (b > 0) <;> cases vmr <;> cases m <;> cases (ol.length : Int) == 1 <;> exact fun hn => hn
theorem fm_len {α : Type} (f : α → List D) (h : ∀ x, (f x).length ≤ 1) : ∀ l : List α, (l.flatMap f).length ≤ l.length
  | [] => Nat.le_refl _
  | x :: r => by rw [List.flatMap_cons, List.length_append, List.length_cons]; have := h x; have := fm_len f h r; omega
theorem g4 (rl : List D) (k : List UInt8) (ck : Cp) (ol : List D) (nv : Ver) (c0 : Cp) (hl : rl.length ≤ 8) (hol : ol.length ≤ 8388608) (ha : rl.all rC = true) (ho : oC (.agg [.str k, .slice ck ol]) = true) : ∀ (rest : List Ver) (pre E : List D) (i : Int), ol = pre ++ rest.map vD → i = (pre.length : Int) → E.length + 8 * rest.length ≤ 90000000 →
    Goes (Γ mx) H62 15 4 (st4 rl (.agg [.str k, .slice ck ol]) (vD nv) c0 ol i E) (resE (E ++ rest.flatMap (evV rl (.agg [.str k, .slice ck ol])) ++ rl.flatMap (ev2 (.agg [.str k, .slice ck ol]) nv)))
  | [], pre, E, i, he, hi, hE => by
    subst hi
    have hd : decide ((pre.length : Int) < (ol.length : Int)) = false := decide_eq_false (by rw [he]; simp)
    rw [List.flatMap_nil, List.append_nil]
    obtain ⟨n, hn⟩ := g18 (mx := mx) rl k ck ol nv hl ha ho rl [] E 0 rfl rfl (by omega)
    revert hn
    cases E with
    | nil =>
      intro hn
      refine Goes.step ⟨n, (r62_4a ..).trans ?_⟩
      rw [hd]; exact hn
    | cons e E =>
      intro hn
      refine Goes.step ⟨n, (r62_4b ..).trans ?_⟩
      rw [hd]; exact hn
  | v :: r, pre, E, i, he, hi, hE => by
    subst hi
    have hlen : ol.length = pre.length + (r.length + 1) := by rw [he]; simp
    simp only [List.length_cons] at hE
    have h8 : (evV rl (.agg [.str k, .slice ck ol]) v).length ≤ 8 := Nat.le_trans (fm_len _ (fun x => ev1_len _ v x) rl) hl
    have ih := g4 rl k ck ol nv c0 hl hol ha ho r (pre ++ [vD v]) (E ++ evV rl (.agg [.str k, .slice ck ol]) v) ((pre.length : Int) + 1) (by rw [he]; simp) (by simp) (by rw [List.length_append]; omega)
    rw [List.append_assoc E, ← List.flatMap_cons] at ih
    obtain ⟨n, hn⟩ := g8 (mx := mx) rl k ck ol nv v c0 (pre.length : Int) _ hl (by omega) (by omega) ha ho rl [] E 0 rfl rfl (by omega) ih
    have hid : ∀ {R : Type} (K : D → Option R), idx ol (pre.length : Int) K = K (vD v) := fun K => by rw [he]; exact idx_mid pre (r.map vD) _ K
    have hd : decide ((pre.length : Int) < (ol.length : Int)) = true := decide_eq_true (by omega)
    revert hn
    generalize resE (E ++ List.flatMap (evV rl (.agg [.str k, .slice ck ol])) (v :: r) ++ rl.flatMap (ev2 (.agg [.str k, .slice ck ol]) nv)) = R
    cases E with
    | nil =>
      intro hn
      refine Goes.step ⟨n, (r62_4a ..).trans ?_⟩
      rw [hd, cond_true, hid]
      show (bif oC (.agg [.str k, .slice ck ol]) then _ else _) = _
      rw [ho]
      exact hn
    | cons e E =>
      intro hn
      refine Goes.step ⟨n, (r62_4b ..).trans ?_⟩
      rw [hd, cond_true, hid]
      show (bif oC (.agg [.str k, .slice ck ol]) then _ else _) = _
      rw [ho]
      exact hn
theorem new_eq (k : List UInt8) (c : Cp) (q : List D) (v : Ver) : newV (.agg [.str k, .slice c (q ++ [vD v])]) = v := by
  unfold newV vsOf
  rw [show oVs (.agg [.str k, .slice c (q ++ [vD v])]) = q ++ [vD v] from rfl, List.filterMap_append]
  simp [vOf_vD]
theorem c62 (l : List D) (o : D) (h : (rsC l && (oC o && goodB l o)) = true) : RetX (Γ mx) 15 [.sl 35 .any l, .d 24 o] [] (.sl 47 .any (evsL l o)) [] := by
  simp only [Bool.and_eq_true] at h
  obtain ⟨hr, ho, hg⟩ := h
  obtain ⟨k, c, ol, rfl, h1, h2⟩ := oC_ex ho
  obtain ⟨hol, hoa⟩ := vsC_eq h2
  obtain ⟨_, hra⟩ := rsC_eq hr
  have hg2 : rsB l = true ∧ oSnd (.agg [.str k, .slice c ol]) = true := by unfold goodB at hg; simpa using hg
  have hl8 : l.length ≤ 8 := by have := hg2.1; unfold rsB at this; simp only [Bool.and_eq_true, decide_eq_true_eq] at this; exact this.1
  obtain ⟨vs, e1, e2⟩ := vs_ex hoa
  obtain ⟨q, nv, e3, _⟩ := last_ex (snd_pos hg2.2) hoa
  have hnew : newV (.agg [.str k, .slice c ol]) = nv := by rw [e3]; exact new_eq k c q nv
  have hvl : vs.length ≤ 8388608 := by have := congrArg List.length e1; rw [List.length_map] at this; omega
  obtain ⟨n, hn⟩ := g4 (mx := mx) l k c ol nv c hl8 hol hra ho vs [] [] 0 e1 rfl (by simp; omega)
  have hw : IntKind.wrap .i64 ((ol.length : Int) - 1) = (q.length : Int) := by
    have := congrArg List.length e3
    rw [List.length_append, List.length_singleton] at this
    rw [wrapI (by omega) (by omega)]; omega
  have hid : ∀ {R : Type} (K : D → Option R), idx ol (q.length : Int) K = K (vD nv) := fun K => by rw [e3]; exact idx_mid q [] _ K
  have hev : evsL l (.agg [.str k, .slice c ol]) = [] ++ vs.flatMap (evV l (.agg [.str k, .slice c ol])) ++ l.flatMap (ev2 (.agg [.str k, .slice c ol]) nv) := by
    unfold evsL
    rw [hnew, show vsOf (oVs (.agg [.str k, .slice c ol])) = vs from e2]; rfl
  rw [← hev] at hn
  have hgo : RetX (Γ mx) 15 [.sl 35 .any l, .d 24 (.agg [.str k, .slice c ol])] [] (resE (evsL l (.agg [.str k, .slice c ol]))).1 [] := by
    refine ret_goes (Γ := Γ mx) hP hZ h62_ok (by kernel_rfl) ⟨n, ?_⟩
    rw [r62, hw, hid]
    refine Eq.trans ?_ (hn.trans ?_)
    · rfl
    · cases evsL l (.agg [.str k, .slice c ol]) <;> rfl
  refine hgo.wk ?_
  cases evsL l (.agg [.str k, .slice c ol]) with
  | nil => exact WkA.nil 90
  | cons e E => exact WkA.refl _
theorem h36_ok : CallsOK (Γ mx) H36 := specs_ok (.cons (spLD_ok c61) (.cons (spLD_ok c62) (.cons (spDt_ok c63) .nil)))
def isEv : D → Prop := fun x => ∃ t i a b c, x = .agg [.int .i64 t, .int .u64 i, .agg [.int .i64 a, .int .i64 b, .bool c]]
theorem ev_all (rl : List D) (o : D) : ∀ x ∈ evsL rl o, isEv x := by
  intro x hx
  unfold evsL at hx
  rcases List.mem_append.1 hx with hx | hx
  · obtain ⟨v, _, hx⟩ := List.mem_flatMap.1 hx
    unfold evV at hx
    obtain ⟨r, _, hx⟩ := List.mem_flatMap.1 hx
    unfold ev1 at hx
    revert hx
    cases meantD r o <;> cases replB o v.id && decide (rOld r > 0) <;> cases !replB o v.id && (v.mr && (rMk r && ((oVs o).length : Int) == 1)) <;> intro hx <;> first | cases hx; done | (simp only [Bool.not_true, Bool.not_false, cond_false, cond_true, List.mem_singleton, List.not_mem_nil] at hx; subst hx; exact ⟨_, _, _, _, _, rfl⟩) | (simp only [Bool.not_true, Bool.not_false, cond_false, cond_true, List.not_mem_nil] at hx)
  · obtain ⟨r, _, hx⟩ := List.mem_flatMap.1 hx
    unfold ev2 at hx
    cases h1 : meantD r o && (decide (rDays r > 0) && !(newV o).mr) with
    | true => rw [h1] at hx; simp only [cond_true, List.mem_singleton] at hx; subst hx; exact ⟨_, _, _, _, _, rfl⟩
    | false => rw [h1] at hx; cases hx
theorem evs_len (rl : List D) (k : List UInt8) (c : Cp) (ol : List D) (h1 : rl.length ≤ 8) (h2 : ol.length ≤ 8388608) (ha : ol.all vC = true) : (evsL rl (.agg [.str k, .slice c ol])).length ≤ 100000000 := by
  obtain ⟨vs, e1, e2⟩ := vs_ex ha
  have hvl : vs.length ≤ 8388608 := by have := congrArg List.length e1; rw [List.length_map] at this; omega
  unfold evsL
  rw [show vsOf (oVs (.agg [.str k, .slice c ol])) = vs from e2, List.length_append]
  have a1 : ∀ vs : List Ver, (vs.flatMap (evV rl (.agg [.str k, .slice c ol]))).length ≤ 8 * vs.length := by
    intro vs
    induction vs with
    | nil => exact Nat.le_refl _
    | cons v r ih =>
      rw [List.flatMap_cons, List.length_append, List.length_cons]
      have : (evV rl (.agg [.str k, .slice c ol]) v).length ≤ 8 := Nat.le_trans (fm_len _ (fun x => ev1_len _ v x) rl) h1
      omega
  have := a1 vs
  have := fm_len (ev2 (.agg [.str k, .slice c ol]) (newV (.agg [.str k, .slice c ol]))) (fun x => ev2_len _ _ x) rl
  omega
def dueR : Option D → AV × Objs
  | some x => (.tuple [.i .u64 (evI x), .b (evI x == 0), .i .i64 0], [])
  | none => (.tuple [.i .u64 0, .b false, .i .i64 0], [])
theorem g36 (l : List D) (t : Int) (hl : l.length ≤ 100000000) (ha : ∀ x ∈ l, isEv x) : ∀ (rest pre : List D) (i : Int), l = pre ++ rest → i = (pre.length : Int) →
    Goes (Γ mx) H36 20 4 ⟨[(2, .i .i64 t), (17, .sl 47 .any l), (18, .i .i64 (l.length : Int)), (19, .i .i64 i)], []⟩ (dueR (dueF rest t))
  | [], pre, i, he, hi => by
    subst hi
    refine Goes.step ⟨0, ?_⟩
    rw [r36_4a, decide_eq_false (show ¬ (pre.length : Int) < (l.length : Int) by rw [he]; simp)]
    rfl
  | x :: r, pre, i, he, hi => by
    subst hi
    have hlen : l.length = pre.length + (r.length + 1) := by rw [he]; simp
    obtain ⟨tm, id, a, b, c, rfl⟩ := ha x (by rw [he]; simp)
    have hid : ∀ {R : Type} (K : D → Option R), idx l (pre.length : Int) K = K (.agg [.int .i64 tm, .int .u64 id, .agg [.int .i64 a, .int .i64 b, .bool c]]) := fun K => by rw [he]; exact idx_mid pre r _ K
    have hw : IntKind.wrap .i64 ((pre.length : Int) + 1) = (pre.length : Int) + 1 := wrapI (by omega) (by omega)
    obtain ⟨n, hn⟩ := g36 l t hl ha r (pre ++ [.agg [.int .i64 tm, .int .u64 id, .agg [.int .i64 a, .int .i64 b, .bool c]]]) ((pre.length : Int) + 1) (by rw [he]; simp) (by simp)
    refine Goes.step ⟨n, ?_⟩
    rw [r36_4a, decide_eq_true (show (pre.length : Int) < (l.length : Int) by omega), cond_true, hid, hw]
    unfold dueF
    rw [List.find?_cons]
    show (bif decide (t < tm) then _ else (bif isLk (.agg [.int .i64 a, .int .i64 b, .bool c]) then (bif heldD (.agg [.int .i64 a, .int .i64 b, .bool c]) t then _ else _) else _)) = _
    rw [show isLk (.agg [.int .i64 a, .int .i64 b, .bool c]) = true from rfl, cond_true, show isDue t (.agg [.int .i64 tm, .int .u64 id, .agg [.int .i64 a, .int .i64 b, .bool c]]) = !(decide (t < tm) || heldD (.agg [.int .i64 a, .int .i64 b, .bool c]) t) from rfl]
    cases decide (t < tm) with
    | true => exact hn
    | false =>
      cases heldD (.agg [.int .i64 a, .int .i64 b, .bool c]) t with
      | true => exact hn
      | false => rfl
theorem c36 (l : List D) (o : D) (t : Int) (h : (rsC l && oC o) = true) : RetX (Γ mx) 20 [.sl 35 .any l, .d 24 o, .i .i64 t] [] (.tuple [.i .u64 (dueI l o t), .b (dueM l o t), .i .i64 (dueE l o)]) [] := by
  have hc := h
  simp only [Bool.and_eq_true] at h
  obtain ⟨hr, ho⟩ := h
  obtain ⟨k, c, ol, rfl, h1, h2⟩ := oC_ex ho
  obtain ⟨hol, hoa⟩ := vsC_eq h2
  cases hg : goodB l (.agg [.str k, .slice c ol]) with
  | false =>
    refine ret_goes (Γ := Γ mx) hP hZ h36_ok (by kernel_rfl) ⟨0, ?_⟩
    rw [r36, hc, dueI, dueM, dueE, hg]; rfl
  | true =>
    have hl8 : l.length ≤ 8 := by
      unfold goodB rsB at hg
      simp only [Bool.and_eq_true, decide_eq_true_eq] at hg
      exact hg.1.1
    obtain ⟨n, hn⟩ := g36 (mx := mx) (evsL l (.agg [.str k, .slice c ol])) t (evs_len l k c ol hl8 hol hoa) (ev_all l _) (evsL l (.agg [.str k, .slice c ol])) [] 0 rfl rfl
    refine ret_goes (Γ := Γ mx) hP hZ h36_ok (by kernel_rfl) ⟨n, ?_⟩
    rw [r36, hc, dueI, dueM, dueE, hg, hr, ho]
    simp only [cond_true]
    refine Eq.trans ?_ (hn.trans ?_)
    · rfl
    · cases dueF (evsL l (.agg [.str k, .slice c ol])) t <;> rfl
end Go.Proofs.YtjbemleloffafaaGreatDoor.V

/- Rules: the context with the rules' words; a text split into a row of the caller's own; awake. -/
namespace Go.Proofs.YtjbemleloffafaaGreatDoor.V
open Go
set_option maxRecDepth 100000
set_option linter.unusedVariables false
set_option linter.unusedSimpArgs false
def tFields : D := .agg [.str [112, 114, 101, 102, 105, 120, 61], .str [116, 97, 103, 115, 61], .str [100, 97, 121, 115, 61], .str [111, 108, 100, 61], .str [109, 97, 114, 107, 101, 114, 115, 61]]
def globsR (mx : Int) : Nat → Option (TypeId × D)
  | 0 => some (61, tFields)
  | 1 => some (123, tFirst)
  | 2 => some (126, tAcc)
  | 4 => some (3, .int .i64 mx)
  | _ => none
noncomputable def ΓR (mx : Int) : Ctx := { Γ mx with G := globsR mx, refs := [], outs := [30] }
variable {mx : Int}
theorem hPR : tabOk (ΓR mx).P = true := by kernel_rfl
theorem hZR : zeroOk (ΓR mx).P = true := by kernel_rfl
theorem hNR : ((ΓR mx).P.funcs.toList.all fun fn => !(fn.name == "runtime.NumGoroutine")) = true := by kernel_rfl
theorem globs_le {g : Nat} {t : TypeId} {x : D} (h : globs mx g = some (t, x)) : globsR mx g = some (t, x) := by
  match g, h with
  | 1, h => exact h
  | 2, h => exact h
  | 4, h => exact h
theorem RetX.big {g : FuncId} {args : List AV} {r : AV} (h : RetX (Γ mx) g args [] r []) (h0 : rootsOf (Γ mx).roots g = 0) : RetX (ΓR mx) g args [] r [] := by
  refine Ret.x fun w S vals hS hG ha => ?_
  refine (h.ret h0 w S vals hS ⟨fun g t x hg => hG.data g t x (globs_le hg), hG.ifs⟩ ha).mono ?_
  rintro v w' ⟨S', hl, hr⟩
  exact ⟨S', ⟨hl.same, hl.grow, hl.more, hl.new, hl.env⟩, hr⟩
theorem fs_strs {P : Program} {w : World} {S : Addr → Prop} {e : TypeId} (he : und P e = some .string) (h1 : P.cellsOf e = 1) : ∀ (l : List ByteArray), RepFs P w S (l.map fun s => D.str s.data.toList) (List.replicate l.length e) (l.map Value.string)
  | [] => by simp [RepFs]
  | s :: l => by
    rw [List.length_cons, List.replicate_succ]
    simp only [List.map_cons, RepFs]
    exact ⟨e, _, [.string s], l.map Value.string, rfl, rfl, by simp only [RepT]; exact ⟨he, s, rfl, rfl⟩, fs_strs he h1 l⟩
theorem max_cellR {w : World} {S : Addr → Prop} (h : GlobOK (ΓR mx) w S) : w.cell? ⟨4, 0, none⟩ = some (.int .i64 mx) := by
  obtain ⟨vs, h1, h2, _⟩ := h.data 4 3 (.int .i64 mx) rfl
  exact glob_int h1 h2
theorem split_ref (c : UInt8) (s : List UInt8) (h : s32 s = true) : RetX (ΓR mx) 30 [.s s, .s [c]] [] (.ref 9 0) [some (.arr 9 (splitC c s) false)] := by
  intro w S σ X vals hX hM ha
  simp only [RepAs, RepA] at ha
  obtain ⟨v, _, rfl, ⟨s, rfl, rfl⟩, v', _, rfl, ⟨u, hu, rfl⟩, rfl⟩ := ha
  obtain rfl := ba_eq hu
  rw [run_entered (P := (ΓR mx).P) (by kernel_rfl)]
  refine Calls.mono (Any.strings_Split Lg.lays146 (by kernel_rfl) s ⟨#[c]⟩ mx w (by simpa [s32] using h) (max_cellR hM.glob) (sep_ne c)) fun e w' ⟨he, hw⟩ => ?_
  have hl := Lib.splitB_all ⟨#[c]⟩ (sep_ne c) 0 _ s rfl
  have hd := Lib.splitB_data ⟨#[c]⟩ 0 (Lib.countB s ⟨#[c]⟩) s
  have hx : splitC c s.data.toList = (Lib.splitB ⟨#[c]⟩ 0 (Lib.countB s ⟨#[c]⟩) s).map fun b => D.str b.data.toList := by
    have : Lib.split s.data.toList [c] = (Lib.splitB ⟨#[c]⟩ 0 (Lib.countB s ⟨#[c]⟩) s).map (·.data.toList) := hd.symm
    unfold splitC
    rw [this, List.map_map]
    rfl
  have hn : (splitC c s.data.toList).length = Lib.countB s ⟨#[c]⟩ + 1 := by rw [hx, List.length_map, hl]
  have hfs := fs_strs (P := (ΓR mx).P) (w := w) (S := S) (e := 9) (by kernel_rfl) (by kernel_rfl) (Lib.splitB ⟨#[c]⟩ 0 (Lib.countB s ⟨#[c]⟩) s)
  obtain ⟨σ', t1, t2⟩ := newArr_ok (Γ := ΓR mx) (e := 9) (el := 9) (d := .string) (xs := splitC c s.data.toList) (cap := Lib.countB s ⟨#[c]⟩ + 1) (w' := w') (fr := (0, 0)) hPR hM false (by kernel_rfl) (by rw [hw]; rfl)
    (by rw [show (ΓR mx).P.cellsOf 9 = 1 from by kernel_rfl]; simp [hl]) (by rw [hn]; exact Nat.le_refl _)
    (vs := (Lib.splitB ⟨#[c]⟩ 0 (Lib.countB s ⟨#[c]⟩) s).map Value.string) (by rw [hx, List.length_map]; exact hfs) (fun j v hj => by simpa using hj) (hev := by rw [hw]; exact ⟨rfl, rfl⟩)
  refine ⟨_, he, S, σ', t1.ok, t1.keeps, ?_⟩
  rw [hn] at t2
  exact t2
def xSpl : List AV → Objs → Option (Bool × AV × Objs)
  | [.s s, .s [c]], [] => some (s32 s, .ref 9 0, [some (.arr 9 (splitC c s) false)])
  | _, _ => none
theorem xSpl_ok : SpecOK (ΓR mx) ⟨30, xSpl⟩ := by
  intro args obs r obs' hr
  change xSpl args obs = some (true, r, obs') at hr
  unfold xSpl at hr
  split at hr
  · simp only [Option.some.injEq, Prod.mk.injEq] at hr
    obtain ⟨h1, rfl, rfl⟩ := hr
    exact split_ref _ _ h1
  · exact absurd hr (by simp)
def HR : Handle := runS [⟨30, xSpl⟩, ⟨32, dat (sp1 short fun p => .tuple [.s (unS p), .i .i64 (unE p)])⟩, ⟨34, dat (sp1 short fun p => .tuple [.sl 84 .any (psL p), .i .i64 (psE p)])⟩, ⟨22, dat (spD1 35 rC fun r => .b (rGood r))⟩, ⟨20, dat (spLDt 35 24 (fun l o => rsC l && oC o) fun l o t => .tuple [.i .u64 (dueI l o t), .b (dueM l o t), .i .i64 (dueE l o)])⟩]
theorem hR_ok : CallsOK (ΓR mx) HR := specs_ok (.cons xSpl_ok (.cons (sp1_ok fun p h => (c60 p h).big (by kernel_rfl)) (.cons (sp1_ok fun p h => (c34 p h).big (by kernel_rfl)) (.cons (spD1_ok fun p h => (c93 p h).big (by kernel_rfl)) (.cons (spLDt_ok fun l o t h => (c36 l o t h).big (by kernel_rfl)) .nil)))))
end Go.Proofs.YtjbemleloffafaaGreatDoor.V

/- RulesSoon: what the functions come to; the law. No program in sight. -/
namespace Go.Proofs.YtjbemleloffafaaGreatDoor.V
open Go
set_option maxRecDepth 100000
set_option linter.unusedVariables false
set_option linter.unusedSimpArgs false
/-! ### the document's answer -/
def erC (l : List D) (o : D) (n : Int) : Bool := rsC l && (oC o && (decide (0 ≤ n) && decide (n < ((oVs o).length : Int))))
def erR (o : D) (n : Nat) (v : Ver) (t : Int) (r : D) : Bool := meantD r o &&
  ((decide ((n : Int) < ((oVs o).length : Int) - 1) && (decide (rOld r > 0) && decide (t ≥ addD (vCr ((oVs o).getD (n + 1) v0)) (rOld r)))) || (((oVs o).length : Int) == 1 && (v.mr && (rMk r && decide (t ≥ (-62135596800))))))
def erV (l : List D) (o : D) (n : Nat) (t : Int) (v : Ver) : Bool := !heldD (lkV v) t && l.any (erR o n v t)
def erD (l : List D) (o : D) (n : Int) (t : Int) : Bool := match vOf ((oVs o).getD n.toNat v0) with | some v => erV l o n.toNat t v | none => false
def rdN (l : List D) (o : D) (t : Int) : List Ver → Nat → Option Ver
  | [], _ => none
  | v :: r, n => bif erV l o n t v then some v else rdN l o t r (n + 1)
def dayR (o : D) (t : Int) (r : D) : Bool := meantD r o && (decide (rDays r > 0) && (!(newV o).mr && decide (t ≥ addD (newV o).cr (rDays r))))
def rdI (l : List D) (o : D) (t : Int) : Int := bif goodB l o then (match rdN l o t (vsOf (oVs o)) 0 with | some v => v.id | none => 0) else 0
def rdM (l : List D) (o : D) (t : Int) : Bool := bif goodB l o then (match rdN l o t (vsOf (oVs o)) 0 with | some _ => false | none => l.any (dayR o t)) else false
/-! ### soon -/
def evMd : D → Int
  | .agg [_, _, .agg [.int _ m, _, _]] => m
  | _ => 0
def evUn : D → Int
  | .agg [_, _, .agg [_, .int _ u, _]] => u
  | _ => 0
def evHo : D → Bool
  | .agg [_, _, .agg [_, _, .bool h]] => h
  | _ => false
def atL (n : Int) : Int := bif decide (n < (-62135596800)) then (-62135596800) else n
def mx2 (a b : Int) : Int := bif decide (a < b) then b else a
def snV (x : D) : Int := bif evMd x != 0 then mx2 (atL (evT x)) (evUn x) else atL (evT x)
def snF : List D → Int → Bool → Int × Bool
  | [], a, b => (a, b)
  | x :: r, a, b => bif evHo x then snF r a b else bif decide (evT x > 253402300799) then snF r a b else bif !b then snF r (snV x) true else bif decide (snV x < a) then snF r (snV x) true else snF r a b
def snT (l : List D) (o : D) : Int := bif goodB l o then (snF (evsL l o) 0 false).1 else 0
def snB (l : List D) (o : D) : Bool := bif goodB l o then (snF (evsL l o) 0 false).2 else false
def liveE (x : D) : Bool := !evHo x && decide (evT x ≤ 253402300799)
theorem snF_spec : ∀ (l : List D) (a : Int) (b : Bool), (snF l a b).2 = (b || l.any liveE) ∧ ((snF l a b).2 = false → (snF l a b).1 = a) ∧
    ((snF l a b).2 = true → (b = true → (snF l a b).1 ≤ a) ∧ (∀ x ∈ l, liveE x = true → (snF l a b).1 ≤ snV x) ∧ ((b = true ∧ (snF l a b).1 = a) ∨ ∃ x ∈ l, liveE x = true ∧ (snF l a b).1 = snV x))
  | [], a, b => by
    refine ⟨by simp [snF], fun _ => rfl, fun h => ⟨fun _ => Int.le_refl _, fun x hx => (by cases hx), .inl ⟨h, rfl⟩⟩⟩
  | x :: r, a, b => by
    have skip : liveE x = false → snF (x :: r) a b = snF r a b := by
      intro h
      unfold liveE at h
      rw [snF]
      cases hh : evHo x with
      | true => rfl
      | false =>
        rw [hh] at h
        have h : ¬ evT x ≤ 253402300799 := by simpa using h
        rw [decide_eq_true (show evT x > 253402300799 by omega)]; rfl
    cases hx : liveE x with
    | false =>
      obtain ⟨h1, h2, h3⟩ := snF_spec r a b
      rw [skip hx]
      refine ⟨by rw [h1, List.any_cons, hx]; simp, h2, fun h => ?_⟩
      obtain ⟨k1, k2, k3⟩ := h3 h
      refine ⟨k1, fun y hy hl => ?_, ?_⟩
      · rcases List.mem_cons.1 hy with rfl | hy
        · rw [hx] at hl; cases hl
        · exact k2 y hy hl
      · rcases k3 with k3 | ⟨y, hy, k3⟩
        · exact .inl k3
        · exact .inr ⟨y, List.mem_cons_of_mem _ hy, k3⟩
    | true =>
      have hx' := hx
      unfold liveE at hx'
      simp only [Bool.and_eq_true, Bool.not_eq_true', decide_eq_true_eq] at hx'
      have take : (b = false ∨ snV x < a) → snF (x :: r) a b = snF r (snV x) true := by
        intro h
        rw [snF, hx'.1, decide_eq_false (show ¬ evT x > 253402300799 by omega)]
        rcases h with rfl | h
        · rfl
        · cases b with
          | false => rfl
          | true => rw [decide_eq_true h]; rfl
      by_cases hc : b = false ∨ snV x < a
      · obtain ⟨h1, h2, h3⟩ := snF_spec r (snV x) true
        rw [take hc]
        have ht : (snF r (snV x) true).2 = true := by rw [h1]; rfl
        obtain ⟨k1, k2, k3⟩ := h3 ht
        have k1 := k1 rfl
        refine ⟨by rw [ht, List.any_cons, hx]; simp, fun h => (by rw [ht] at h; cases h), fun _ => ⟨fun hb => ?_, fun y hy hl => ?_, ?_⟩⟩
        · rcases hc with rfl | hc
          · cases hb
          · omega
        · rcases List.mem_cons.1 hy with rfl | hy
          · exact k1
          · exact k2 y hy hl
        · rcases k3 with k3 | ⟨y, hy, k3⟩
          · exact .inr ⟨x, List.mem_cons_self .., hx, k3.2⟩
          · exact .inr ⟨y, List.mem_cons_of_mem _ hy, k3⟩
      · have hb : b = true := by cases b <;> simp_all
        subst hb
        have hlt : ¬ snV x < a := fun h => hc (.inr h)
        have e : snF (x :: r) a true = snF r a true := by
          rw [snF, hx'.1, decide_eq_false (show ¬ evT x > 253402300799 by omega), decide_eq_false hlt]; rfl
        obtain ⟨h1, h2, h3⟩ := snF_spec r a true
        rw [e]
        have ht : (snF r a true).2 = true := by rw [h1]; rfl
        obtain ⟨k1, k2, k3⟩ := h3 ht
        have k1 := k1 rfl
        refine ⟨by rw [ht]; simp, fun h => (by rw [ht] at h; cases h), fun _ => ⟨fun _ => k1, fun y hy hl => ?_, ?_⟩⟩
        · rcases List.mem_cons.1 hy with rfl | hy
          · omega
          · exact k2 y hy hl
        · rcases k3 with k3 | ⟨y, hy, k3⟩
          · exact .inl k3
          · exact .inr ⟨y, List.mem_cons_of_mem _ hy, k3⟩
/-- an event's form, and its lock's end -/
def evOK (x : D) : Prop := ∃ t i a b c, x = .agg [.int .i64 t, .int .u64 i, .agg [.int .i64 a, .int .i64 b, .bool c]] ∧ (a = 0 ∨ b ≤ 253402300799)
theorem due_sn {x : D} (h : evOK x) {t : Int} (ht : -62135596800 ≤ t) : isDue t x = (!evHo x && decide (snV x ≤ t)) := by
  obtain ⟨tm, i, a, b, c, rfl, _⟩ := h
  show (!(decide (t < tm) || (c || (a != 0 && decide (t < b))))) = (!c && decide ((bif a != 0 then mx2 (atL tm) b else atL tm) ≤ t))
  have e1 : decide (atL tm ≤ t) = !decide (t < tm) := by
    unfold atL
    by_cases h : tm < -62135596800
    · rw [decide_eq_true h, cond_true, decide_eq_true ht, decide_eq_false (by omega)]; rfl
    · rw [decide_eq_false h, cond_false]
      by_cases h2 : tm ≤ t
      · rw [decide_eq_true h2, decide_eq_false (by omega)]; rfl
      · rw [decide_eq_false h2, decide_eq_true (by omega)]; rfl
  have e2 : decide (mx2 (atL tm) b ≤ t) = (!decide (t < tm) && !decide (t < b)) := by
    rw [← e1]
    unfold mx2
    by_cases h : atL tm < b
    · rw [decide_eq_true h, cond_true]
      by_cases h2 : b ≤ t
      · rw [decide_eq_true h2, decide_eq_true (by omega), decide_eq_false (show ¬ t < b by omega)]; rfl
      · rw [decide_eq_false h2, decide_eq_true (show t < b by omega)]; simp
    · rw [decide_eq_false h, cond_false]
      by_cases h2 : atL tm ≤ t
      · rw [decide_eq_true h2, decide_eq_false (show ¬ t < b by omega)]; rfl
      · rw [decide_eq_false h2]; rfl
  cases ha : a != 0 with
  | false => rw [cond_false, e1]; cases c <;> cases decide (t < tm) <;> rfl
  | true => rw [cond_true, e2]; cases c <;> cases decide (t < tm) <;> cases decide (t < b) <;> rfl
theorem live_sn {x : D} (h : evOK x) : liveE x = (!evHo x && decide (snV x ≤ 253402300799)) := by
  obtain ⟨tm, i, a, b, c, rfl, hb⟩ := h
  show (!c && decide (tm ≤ 253402300799)) = (!c && decide ((bif a != 0 then mx2 (atL tm) b else atL tm) ≤ 253402300799))
  congr 1
  refine decide_eq_decide.2 ?_
  have e1 : atL tm ≤ 253402300799 ↔ tm ≤ 253402300799 := by
    unfold atL
    by_cases h : tm < -62135596800
    · rw [decide_eq_true h, cond_true]; omega
    · rw [decide_eq_false h, cond_false]
  cases ha : a != 0 with
  | false => rw [cond_false]; exact e1.symm
  | true =>
    have ha : a ≠ 0 := by simpa using ha
    have hb : b ≤ 253402300799 := hb.resolve_left ha
    rw [cond_true, ← e1]
    unfold mx2
    by_cases h : atL tm < b
    · rw [decide_eq_true h, cond_true]; omega
    · rw [decide_eq_false h, cond_false]
theorem snV_min (x : D) : -62135596800 ≤ snV x := by
  have e1 : -62135596800 ≤ atL (evT x) := by
    unfold atL
    by_cases h : evT x < -62135596800
    · rw [decide_eq_true h, cond_true]; omega
    · rw [decide_eq_false h, cond_false]; omega
  unfold snV
  cases evMd x != 0 with
  | false => exact e1
  | true =>
    rw [cond_true]
    unfold mx2
    by_cases h : atL (evT x) < evUn x
    · rw [decide_eq_true h, cond_true]; omega
    · rw [decide_eq_false h, cond_false]; exact e1
theorem any_eq {l : List D} {p q : D → Bool} (h : ∀ x ∈ l, p x = q x) : l.any p = l.any q := by
  induction l with
  | nil => rfl
  | cons x r ih => rw [List.any_cons, List.any_cons, h x (List.mem_cons_self ..), ih fun y hy => h y (List.mem_cons_of_mem _ hy)]
/-- the law of the soonest moment -/
theorem soon_law {E : List D} (hE : ∀ x ∈ E, evOK x) : (snF E 0 false).2 = E.any (isDue 253402300799) ∧ ((snF E 0 false).2 = false → (snF E 0 false).1 = 0) ∧
    ((snF E 0 false).2 = true → -62135596800 ≤ (snF E 0 false).1 ∧ (snF E 0 false).1 ≤ 253402300799 ∧ E.any (isDue (snF E 0 false).1) = true ∧
      ((snF E 0 false).1 ≠ -62135596800 → E.any (isDue ((snF E 0 false).1 - 1)) = false)) := by
  obtain ⟨h1, h2, h3⟩ := snF_spec E 0 false
  refine ⟨?_, h2, fun h => ?_⟩
  · rw [h1, Bool.false_or]
    exact any_eq fun x hx => by rw [live_sn (hE x hx), due_sn (hE x hx) (by omega)]
  · obtain ⟨_, k2, k3⟩ := h3 h
    obtain ⟨x, hx, hl, e⟩ : ∃ x ∈ E, liveE x = true ∧ (snF E 0 false).1 = snV x := by
      rcases k3 with k3 | k3
      · exact absurd k3.1 (by simp)
      · exact k3
    have hl' := hl
    rw [live_sn (hE x hx)] at hl'
    simp only [Bool.and_eq_true, Bool.not_eq_true', decide_eq_true_eq] at hl'
    have hm := snV_min x
    refine ⟨by omega, by omega, ?_, fun hne => ?_⟩
    · refine List.any_eq_true.2 ⟨x, hx, ?_⟩
      rw [due_sn (hE x hx) (by omega), hl'.1, decide_eq_true (by omega)]; rfl
    · refine Bool.eq_false_iff.2 fun ha => ?_
      obtain ⟨y, hy, hd⟩ := List.any_eq_true.1 ha
      rw [due_sn (hE y hy) (by omega)] at hd
      simp only [Bool.and_eq_true, Bool.not_eq_true', decide_eq_true_eq] at hd
      have hly : liveE y = true := by
        rw [live_sn (hE y hy), hd.1, decide_eq_true (by omega)]; rfl
      have := k2 y hy hly
      omega
end Go.Proofs.YtjbemleloffafaaGreatDoor.V

/- RulesSoon: what the machine over values makes of the functions: equations, written by program. -/
namespace Go.Proofs.YtjbemleloffafaaGreatDoor.V
open Go
set_option maxRecDepth 100000
set_option linter.unusedVariables false
set_option linter.unusedSimpArgs false
def spEr : List AV → Option (Bool × AV)
  | [.sl t _ l, .d s o, .i .i64 n, .i .i64 m] => some (Nat.beq t 35 && (Nat.beq s 24 && erC l o n), .b (erD l o n m))
  | _ => none
variable {mx : Int}
theorem q75 (call : Handle) (lab : Lab) (md : Int) (un : Int) (ho : Bool) (t : Int) : evF (Γ mx) call lab 75 [.d 45 (D.agg [D.int .i64 md, D.int .i64 un, D.bool ho]), .i .i64 t] [] =
  bif md == 0 then (some (.b false, [])) else (some (.b (decide (t < un)), [])) := by kernel_rfl
def Q48 : Handle := runS [⟨75, dat (spDt 45 isLk fun l t => .b (bindsD l t))⟩]
theorem q48 (lab : Lab) (md : Int) (un : Int) (ho : Bool) (t : Int) : evF (Γ mx) Q48 lab 48 [.d 45 (D.agg [D.int .i64 md, D.int .i64 un, D.bool ho]), .i .i64 t] [] =
  bif ho then (some (.b true, [])) else (bif isLk (D.agg [D.int .i64 md, D.int .i64 un, D.bool ho]) then (some (.b (bindsD (D.agg [D.int .i64 md, D.int .i64 un, D.bool ho]) t), [])) else none) := by kernel_rfl
theorem q99 (call : Handle) (lab : Lab) (t : Int) : evF (Γ mx) call lab 99 [.i .i64 t] [] =
  bif decide (t < ((-62135596800))) then (some (.i .i64 (-62135596800), [])) else (bif decide (t > 253402300799) then (some (.i .i64 253402300799, [])) else (some (.i .i64 t, []))) := by kernel_rfl
def Q100 : Handle := runS [⟨99, dat spClamp⟩]
theorem q100 (lab : Lab) (md : Int) (un : Int) (ho : Bool) : evF (Γ mx) Q100 lab 100 [.d 45 (D.agg [D.int .i64 md, D.int .i64 un, D.bool ho])] [] =
  bif md == 0 then (some (.b (un == 0), [])) else (bif md == 1 then (some (.b ((clampZ un) == un), [])) else (bif md == 2 then (some (.b ((clampZ un) == un), [])) else (some (.b false, [])))) := by kernel_rfl
def Q74 : Handle := runS [⟨99, dat spClamp⟩, ⟨100, dat (spD1 45 isLk fun l => .b (lkB l))⟩, ⟨45, dat (spL1s 84 tC fun l => .b (tsB l))⟩]
theorem q74 (lab : Lab) (vid : Int) (vmk : Bool) (vsz : Int) (vbl : Int) (vdg : List D) (vcr : Int) (vmd : Int) (vun : Int) (vho : Bool) (vc : Cp) (vtg : List D) : evF (Γ mx) Q74 lab 74 [.d 54 (D.agg [D.int .u64 vid, D.bool vmk, D.int .i64 vsz, D.int .u64 vbl, D.agg vdg, D.int .i64 vcr, D.agg [D.int .i64 vmd, D.int .i64 vun, D.bool vho], D.slice vc vtg])] [] =
  bif decide (vid < 1) then (some (.b false, [])) else (bif (clampZ vcr) != vcr then (some (.b false, [])) else (bif !vmk then (bif decide (vsz ≥ 0) then (bif decide (vsz ≤ 16384) then (bif decide (vbl ≥ 1) then (bif isLk (D.agg [D.int .i64 vmd, D.int .i64 vun, D.bool vho]) then (bif lkB (D.agg [D.int .i64 vmd, D.int .i64 vun, D.bool vho]) then (bif tC vtg then (some (.b (tsB vtg), [])) else none) else (some (.b false, []))) else none) else (some (.b false, []))) else (some (.b false, []))) else (some (.b false, []))) else (lab (todoAt (Γ mx) 74 6) ⟨[(1, .ptr 0 [] 54), (3, .i .i64 0)], [some (.box 54 (.d 54 (D.agg [D.int .u64 vid, D.bool vmk, D.int .i64 vsz, D.int .u64 vbl, D.agg vdg, D.int .i64 vcr, D.agg [D.int .i64 vmd, D.int .i64 vun, D.bool vho], D.slice vc vtg])))]⟩))) := by kernel_rfl
theorem q74_6a (lab : Lab) (n1 : Int) (n2 : Int) (b3 : Bool) (n4 : Int) (n5 : Int) (y6 : List D) (n7 : Int) (n8 : Int) (n9 : Int) (b10 : Bool) (c11 : Cp) (l12 : List D) : evL (Γ mx) Q74 lab 74 6 ⟨[(1, .ptr 0 [] 54), (3, .i .i64 n1)], [some (.box 54 (.d 54 (D.agg [D.int .u64 n2, D.bool b3, D.int .i64 n4, D.int .u64 n5, D.agg y6, D.int .i64 n7, D.agg [D.int .i64 n8, D.int .i64 n9, D.bool b10], D.slice c11 l12])))]⟩ =
  bif decide (n1 < 32) then (bif decide ((0:Int) ≤ n1) && decide (n1 < (32 : Int)) then (lGet y6 (Int.toNat n1) fun y13 => dInt .u8 y13 fun n14 => bif n14 != 0 then (some (.b false, [])) else (lab (todoAt (Γ mx) 74 6) ⟨[(1, .ptr 0 [] 54), (3, .i .i64 (IntKind.wrap .i64 (n1 + 1)))], [some (.box 54 (.d 54 (D.agg [D.int .u64 n2, D.bool b3, D.int .i64 n4, D.int .u64 n5, D.agg y6, D.int .i64 n7, D.agg [D.int .i64 n8, D.int .i64 n9, D.bool b10], D.slice c11 l12])))]⟩)) else none) else (bif n4 == 0 then (bif n5 == 0 then (bif n8 == 0 then (bif n9 == 0 then (bif !b10 then (some (.b (((l12.length : Int)) == 0), [])) else (some (.b false, []))) else (some (.b false, []))) else (some (.b false, []))) else (some (.b false, []))) else (some (.b false, []))) := by kernel_rfl
def Q47 : Handle := runS [⟨74, dat (spD1 54 vC fun v => .b (vGood v))⟩]
theorem q47 (lab : Lab) (l : List D) : evF (Γ mx) Q47 lab 47 [.sl 54 .any l] [] =
  lab (todoAt (Γ mx) 47 2) ⟨[(0, .sl 54 .any l), (3, .i .i64 0)], []⟩ := by kernel_rfl
theorem q47_2a (lab : Lab) (l1 : List D) (n2 : Int) : evL (Γ mx) Q47 lab 47 2 ⟨[(0, .sl 54 .any l1), (3, .i .i64 n2)], []⟩ =
  bif decide (n2 < ((l1.length : Int))) then (idx l1 n2 fun y3 => dAgg y3 fun y4 => lCons y4 fun a5 r6 => dInt .u64 a5 fun n7 => lCons r6 fun a8 r9 => dBool a8 fun b10 => lCons r9 fun a11 r12 => dInt .i64 a11 fun n13 => lCons r12 fun a14 r15 => dInt .u64 a14 fun n16 => lCons r15 fun a17 r18 => dAgg a17 fun y19 => lCons r18 fun a20 r21 => dInt .i64 a20 fun n22 => lCons r21 fun a23 r24 => dAgg a23 fun y25 => lCons y25 fun a26 r27 => dInt .i64 a26 fun n28 => lCons r27 fun a29 r30 => dInt .i64 a29 fun n31 => lCons r30 fun a32 r33 => dBool a32 fun b34 => lNil r33 (lCons r24 fun a35 r36 => dSlice a35 fun c37 l38 => lNil r36 (bif vC (D.agg [D.int .u64 n7, D.bool b10, D.int .i64 n13, D.int .u64 n16, D.agg y19, D.int .i64 n22, D.agg [D.int .i64 n28, D.int .i64 n31, D.bool b34], D.slice c37 l38]) then (bif !(vGood (D.agg [D.int .u64 n7, D.bool b10, D.int .i64 n13, D.int .u64 n16, D.agg y19, D.int .i64 n22, D.agg [D.int .i64 n28, D.int .i64 n31, D.bool b34], D.slice c37 l38])) then (some (.b false, [])) else (bif decide (n2 > 0) then (idx l1 n2 fun y39 => dAgg y39 fun y40 => lGet y40 0 fun y41 => dInt .u64 y41 fun n42 => idx l1 (IntKind.wrap .i64 (n2 - 1)) fun y43 => dAgg y43 fun y44 => lGet y44 0 fun y45 => dInt .u64 y45 fun n46 => bif decide (n42 ≤ n46) then (some (.b false, [])) else (idx l1 n2 fun y47 => dAgg y47 fun y48 => lGet y48 5 fun y49 => dInt .i64 y49 fun n50 => idx l1 (IntKind.wrap .i64 (n2 - 1)) fun y51 => dAgg y51 fun y52 => lGet y52 5 fun y53 => dInt .i64 y53 fun n54 => bif decide (n50 < n54) then (some (.b false, [])) else (lab (todoAt (Γ mx) 47 2) ⟨[(0, .sl 54 .any l1), (3, .i .i64 (IntKind.wrap .i64 (n2 + 1)))], []⟩))) else (lab (todoAt (Γ mx) 47 2) ⟨[(0, .sl 54 .any l1), (3, .i .i64 (IntKind.wrap .i64 (n2 + 1)))], []⟩))) else none))) else (some (.b true, [])) := by kernel_rfl
def Q46 : Handle := runS [⟨44, dat (sp1 short fun p => .b (cleanV p))⟩]
theorem q46 (lab : Lab) (s : List UInt8) : evF (Γ mx) Q46 lab 46 [.s s] [] =
  bif decide (((List.length s : Int)) ≥ 1) then (bif decide (((List.length s : Int)) ≤ 200) then (bif short s then (some (.b (cleanV s), [])) else none) else (some (.b false, []))) else (some (.b false, [])) := by kernel_rfl
def Q17 : Handle := runS [⟨46, dat (sp1 short fun s => .b (keyB s))⟩, ⟨47, dat (spL1 54 vsC fun l => .b (risB l))⟩]
theorem q17 (lab : Lab) (ok : List UInt8) (oc : Cp) (ov : List D) : evF (Γ mx) Q17 lab 17 [.d 24 (D.agg [D.str ok, D.slice oc ov])] [] =
  bif short ok then (bif keyB ok then (bif decide (((ov.length : Int)) ≥ 1) then (bif vsC ov then (some (.b (risB ov), [])) else none) else (some (.b false, []))) else (some (.b false, []))) else none := by kernel_rfl
def Q16 : Handle := runS [⟨44, dat (sp1 short fun p => .b (cleanV p))⟩, ⟨45, dat (spL1s 84 tC fun l => .b (tsB l))⟩]
theorem q16 (lab : Lab) (l : List D) : evF (Γ mx) Q16 lab 16 [.sl 35 .any l] [] =
  bif decide (((l.length : Int)) > 8) then (some (.b false, [])) else (lab (todoAt (Γ mx) 16 4) ⟨[(0, .sl 35 .any l), (3, .i .i64 0)], []⟩) := by kernel_rfl
theorem q16_4a (lab : Lab) (l1 : List D) (n2 : Int) : evL (Γ mx) Q16 lab 16 4 ⟨[(0, .sl 35 .any l1), (3, .i .i64 n2)], []⟩ =
  bif decide (n2 < ((l1.length : Int))) then (idx l1 n2 fun y3 => dAgg y3 fun y4 => lCons y4 fun a5 r6 => dStr a5 fun s7 => lCons r6 fun a8 r9 => dSlice a8 fun c10 l11 => lCons r9 fun a12 r13 => dInt .i64 a12 fun n14 => lCons r13 fun a15 r16 => dInt .i64 a15 fun n17 => lCons r16 fun a18 r19 => dBool a18 fun b20 => lNil r19 (bif decide (((List.length s7 : Int)) > 200) then (some (.b false, [])) else (bif short s7 then (bif !(cleanV s7) then (some (.b false, [])) else (bif tC l11 then (bif !(tsB l11) then (some (.b false, [])) else (bif decide (n14 < 0) then (some (.b false, [])) else (bif decide (n14 > 36500) then (some (.b false, [])) else (bif decide (n17 < 0) then (some (.b false, [])) else (bif decide (n17 > 36500) then (some (.b false, [])) else (lab (todoAt (Γ mx) 16 4) ⟨[(0, .sl 35 .any l1), (3, .i .i64 (IntKind.wrap .i64 (n2 + 1)))], []⟩)))))) else none)) else none))) else (some (.b true, [])) := by kernel_rfl
theorem q76 (call : Handle) (lab : Lab) (l : List D) (n : List UInt8) : evF (Γ mx) call lab 76 [.sl 84 .any l, .s n] [] =
  lab (todoAt (Γ mx) 76 2) ⟨[(0, .sl 84 .any l), (1, .s n), (6, .i .i64 0)], []⟩ := by kernel_rfl
theorem q76_2a (call : Handle) (lab : Lab) (l1 : List D) (s2 : List UInt8) (n3 : Int) : evL (Γ mx) call lab 76 2 ⟨[(0, .sl 84 .any l1), (1, .s s2), (6, .i .i64 n3)], []⟩ =
  bif decide (n3 < ((l1.length : Int))) then (idx l1 n3 fun y4 => dAgg y4 fun y5 => lGet y5 0 fun y6 => dStr y6 fun s7 => bif s7 == s2 then (idx l1 n3 fun y8 => dAgg y8 fun y9 => lGet y9 1 fun y10 => dStr y10 fun s11 => some (.tuple [.s s11, .b true], [])) else (lab (todoAt (Γ mx) 76 2) ⟨[(0, .sl 84 .any l1), (1, .s s2), (6, .i .i64 (IntKind.wrap .i64 (n3 + 1)))], []⟩)) else (some (.tuple [.s ([] : List UInt8), .b false], [])) := by kernel_rfl
def Q49 : Handle := runS [⟨76, dat (spLS 84 (fun l _ => tC l) fun l n => .tuple [.s (getS l n), .b (getB l n)])⟩]
theorem q49 (lab : Lab) (a : List D) (l : List D) : evF (Γ mx) Q49 lab 49 [.sl 84 .any a, .sl 84 .any l] [] =
  lab (todoAt (Γ mx) 49 2) ⟨[(0, .sl 84 .any a), (1, .sl 84 .any l), (5, .i .i64 0)], []⟩ := by kernel_rfl
theorem q49_2a (lab : Lab) (l1 : List D) (l2 : List D) (n3 : Int) : evL (Γ mx) Q49 lab 49 2 ⟨[(0, .sl 84 .any l1), (1, .sl 84 .any l2), (5, .i .i64 n3)], []⟩ =
  bif decide (n3 < ((l1.length : Int))) then (idx l1 n3 fun y4 => dAgg y4 fun y5 => lGet y5 0 fun y6 => dStr y6 fun s7 => bif tC l2 then (bif !(getB l2 s7) then (some (.b false, [])) else (idx l1 n3 fun y8 => dAgg y8 fun y9 => lGet y9 1 fun y10 => dStr y10 fun s11 => bif !((getS l2 s7) == s11) then (some (.b false, [])) else (lab (todoAt (Γ mx) 49 2) ⟨[(0, .sl 84 .any l1), (1, .sl 84 .any l2), (5, .i .i64 (IntKind.wrap .i64 (n3 + 1)))], []⟩))) else none) else (some (.b true, [])) := by kernel_rfl
theorem q36 (call : Handle) (lab : Lab) (s : List UInt8) (p : List UInt8) : evF (Γ mx) call lab 36 [.s s, .s p] [] =
  bif decide (((List.length s : Int)) ≥ ((List.length p : Int))) then (bif decide ((0:Int) ≤ ((List.length p : Int))) && decide (((List.length p : Int)) ≤ (List.length s : Int)) then (some (.b ((List.take ((Int.toNat ((List.length p : Int))) - 0) (List.drop 0 s)) == p), [])) else none) else (some (.b false, [])) := by kernel_rfl
def Q19 : Handle := runS [⟨17, dat (spD1 24 oC fun o => .b (oSnd o))⟩, ⟨36, dat (sp2 (fun _ _ => true) fun a b => .b (hpB a b))⟩, ⟨49, dat (spLL 84 84 (fun a b => tC a && tC b) fun a b => .b (withinB a b))⟩]
theorem q19 (lab : Lab) (rp : List UInt8) (rc : Cp) (rt : List D) (rd : Int) (ro : Int) (rm : Bool) (ok : List UInt8) (oc : Cp) (ov : List D) : evF (Γ mx) Q19 lab 19 [.d 35 (D.agg [D.str rp, D.slice rc rt, D.int .i64 rd, D.int .i64 ro, D.bool rm]), .d 24 (D.agg [D.str ok, D.slice oc ov])] [] =
  bif oC (D.agg [D.str ok, D.slice oc ov]) then (bif !(oSnd (D.agg [D.str ok, D.slice oc ov])) then (some (.b false, [])) else (bif hpB ok rp then (idx ov (IntKind.wrap .i64 (((ov.length : Int)) - 1)) fun y1 => dAgg y1 fun y2 => lGet y2 7 fun y3 => dSlice y3 fun c4 l5 => bif tC rt && tC l5 then (some (.b (withinB rt l5), [])) else none) else (some (.b false, [])))) else none := by kernel_rfl
def Q18 : Handle := runS [⟨48, dat (spDt 45 isLk fun l t => .b (heldD l t))⟩, ⟨19, dat (spDD 35 24 (fun r o => rC r && oC o) fun r o => .b (meantD r o))⟩]
theorem q18 (lab : Lab) (l : List D) (ok : List UInt8) (oc : Cp) (ov : List D) (n : Int) (t : Int) : evF (Γ mx) Q18 lab 18 [.sl 35 .any l, .d 24 (D.agg [D.str ok, D.slice oc ov]), .i .i64 n, .i .i64 t] [] =
  idx ov n fun y1 => dAgg y1 fun y2 => lCons y2 fun a3 r4 => dInt .u64 a3 fun n5 => lCons r4 fun a6 r7 => dBool a6 fun b8 => lCons r7 fun a9 r10 => dInt .i64 a9 fun n11 => lCons r10 fun a12 r13 => dInt .u64 a12 fun n14 => lCons r13 fun a15 r16 => dAgg a15 fun y17 => lCons r16 fun a18 r19 => dInt .i64 a18 fun n20 => lCons r19 fun a21 r22 => dAgg a21 fun y23 => lCons y23 fun a24 r25 => dInt .i64 a24 fun n26 => lCons r25 fun a27 r28 => dInt .i64 a27 fun n29 => lCons r28 fun a30 r31 => dBool a30 fun b32 => lNil r31 (lCons r22 fun a33 r34 => dSlice a33 fun c35 l36 => lNil r34 (bif isLk (D.agg [D.int .i64 n26, D.int .i64 n29, D.bool b32]) then (bif heldD (D.agg [D.int .i64 n26, D.int .i64 n29, D.bool b32]) t then (some (.b false, [])) else (lab (todoAt (Γ mx) 18 5) ⟨[(0, .sl 35 .any l), (2, .i .i64 n), (3, .i .i64 t), (5, .ptr 0 [] 24), (9, .ptr 1 [] 54), (10, .i .i64 0)], [some (.box 24 (.d 24 (D.agg [D.str ok, D.slice oc ov]))), some (.box 54 (.d 54 (D.agg [D.int .u64 n5, D.bool b8, D.int .i64 n11, D.int .u64 n14, D.agg y17, D.int .i64 n20, D.agg [D.int .i64 n26, D.int .i64 n29, D.bool b32], D.slice c35 l36])))]⟩)) else none)) := by kernel_rfl
theorem q18_5a (lab : Lab) (l1 : List D) (n2 : Int) (n3 : Int) (n4 : Int) (s5 : List UInt8) (c6 : Cp) (l7 : List D) (n8 : Int) (b9 : Bool) (n10 : Int) (n11 : Int) (y12 : List D) (n13 : Int) (n14 : Int) (n15 : Int) (b16 : Bool) (c17 : Cp) (l18 : List D) : evL (Γ mx) Q18 lab 18 5 ⟨[(0, .sl 35 .any l1), (2, .i .i64 n2), (3, .i .i64 n3), (5, .ptr 0 [] 24), (9, .ptr 1 [] 54), (10, .i .i64 n4)], [some (.box 24 (.d 24 (D.agg [D.str s5, D.slice c6 l7]))), some (.box 54 (.d 54 (D.agg [D.int .u64 n8, D.bool b9, D.int .i64 n10, D.int .u64 n11, D.agg y12, D.int .i64 n13, D.agg [D.int .i64 n14, D.int .i64 n15, D.bool b16], D.slice c17 l18])))]⟩ =
  bif decide (n4 < ((l1.length : Int))) then (idx l1 n4 fun y19 => dAgg y19 fun y20 => lCons y20 fun a21 r22 => dStr a21 fun s23 => lCons r22 fun a24 r25 => dSlice a24 fun c26 l27 => lCons r25 fun a28 r29 => dInt .i64 a28 fun n30 => lCons r29 fun a31 r32 => dInt .i64 a31 fun n33 => lCons r32 fun a34 r35 => dBool a34 fun b36 => lNil r35 (bif rC (D.agg [D.str s23, D.slice c26 l27, D.int .i64 n30, D.int .i64 n33, D.bool b36]) && oC (D.agg [D.str s5, D.slice c6 l7]) then (bif !(meantD (D.agg [D.str s23, D.slice c26 l27, D.int .i64 n30, D.int .i64 n33, D.bool b36]) (D.agg [D.str s5, D.slice c6 l7])) then (lab (todoAt (Γ mx) 18 5) ⟨[(0, .sl 35 .any l1), (2, .i .i64 n2), (3, .i .i64 n3), (5, .ptr 0 [] 24), (9, .ptr 1 [] 54), (10, .i .i64 (IntKind.wrap .i64 (n4 + 1)))], [some (.box 24 (.d 24 (D.agg [D.str s5, D.slice c6 l7]))), some (.box 54 (.d 54 (D.agg [D.int .u64 n8, D.bool b9, D.int .i64 n10, D.int .u64 n11, D.agg y12, D.int .i64 n13, D.agg [D.int .i64 n14, D.int .i64 n15, D.bool b16], D.slice c17 l18])))]⟩) else (bif decide (n2 < (IntKind.wrap .i64 (((l7.length : Int)) - 1))) then (idx l1 n4 fun y37 => dAgg y37 fun y38 => lGet y38 3 fun y39 => dInt .i64 y39 fun n40 => bif decide (n40 > 0) then (idx l7 (IntKind.wrap .i64 (n2 + 1)) fun y41 => dAgg y41 fun y42 => lGet y42 5 fun y43 => dInt .i64 y43 fun n44 => idx l1 n4 fun y45 => dAgg y45 fun y46 => lGet y46 3 fun y47 => dInt .i64 y47 fun n48 => bif decide (n3 ≥ (IntKind.wrap .i64 (n44 + (IntKind.wrap .i64 (n48 * 86400))))) then (some (.b true, [])) else (bif ((l7.length : Int)) == 1 then (bif b9 then (idx l1 n4 fun y49 => dAgg y49 fun y50 => lGet y50 4 fun y51 => dBool y51 fun b52 => bif b52 then (bif decide (n3 ≥ ((-62135596800))) then (some (.b true, [])) else (lab (todoAt (Γ mx) 18 5) ⟨[(0, .sl 35 .any l1), (2, .i .i64 n2), (3, .i .i64 n3), (5, .ptr 0 [] 24), (9, .ptr 1 [] 54), (10, .i .i64 (IntKind.wrap .i64 (n4 + 1)))], [some (.box 24 (.d 24 (D.agg [D.str s5, D.slice c6 l7]))), some (.box 54 (.d 54 (D.agg [D.int .u64 n8, D.bool b9, D.int .i64 n10, D.int .u64 n11, D.agg y12, D.int .i64 n13, D.agg [D.int .i64 n14, D.int .i64 n15, D.bool b16], D.slice c17 l18])))]⟩)) else (lab (todoAt (Γ mx) 18 5) ⟨[(0, .sl 35 .any l1), (2, .i .i64 n2), (3, .i .i64 n3), (5, .ptr 0 [] 24), (9, .ptr 1 [] 54), (10, .i .i64 (IntKind.wrap .i64 (n4 + 1)))], [some (.box 24 (.d 24 (D.agg [D.str s5, D.slice c6 l7]))), some (.box 54 (.d 54 (D.agg [D.int .u64 n8, D.bool b9, D.int .i64 n10, D.int .u64 n11, D.agg y12, D.int .i64 n13, D.agg [D.int .i64 n14, D.int .i64 n15, D.bool b16], D.slice c17 l18])))]⟩)) else (lab (todoAt (Γ mx) 18 5) ⟨[(0, .sl 35 .any l1), (2, .i .i64 n2), (3, .i .i64 n3), (5, .ptr 0 [] 24), (9, .ptr 1 [] 54), (10, .i .i64 (IntKind.wrap .i64 (n4 + 1)))], [some (.box 24 (.d 24 (D.agg [D.str s5, D.slice c6 l7]))), some (.box 54 (.d 54 (D.agg [D.int .u64 n8, D.bool b9, D.int .i64 n10, D.int .u64 n11, D.agg y12, D.int .i64 n13, D.agg [D.int .i64 n14, D.int .i64 n15, D.bool b16], D.slice c17 l18])))]⟩)) else (lab (todoAt (Γ mx) 18 5) ⟨[(0, .sl 35 .any l1), (2, .i .i64 n2), (3, .i .i64 n3), (5, .ptr 0 [] 24), (9, .ptr 1 [] 54), (10, .i .i64 (IntKind.wrap .i64 (n4 + 1)))], [some (.box 24 (.d 24 (D.agg [D.str s5, D.slice c6 l7]))), some (.box 54 (.d 54 (D.agg [D.int .u64 n8, D.bool b9, D.int .i64 n10, D.int .u64 n11, D.agg y12, D.int .i64 n13, D.agg [D.int .i64 n14, D.int .i64 n15, D.bool b16], D.slice c17 l18])))]⟩))) else (bif ((l7.length : Int)) == 1 then (bif b9 then (idx l1 n4 fun y53 => dAgg y53 fun y54 => lGet y54 4 fun y55 => dBool y55 fun b56 => bif b56 then (bif decide (n3 ≥ ((-62135596800))) then (some (.b true, [])) else (lab (todoAt (Γ mx) 18 5) ⟨[(0, .sl 35 .any l1), (2, .i .i64 n2), (3, .i .i64 n3), (5, .ptr 0 [] 24), (9, .ptr 1 [] 54), (10, .i .i64 (IntKind.wrap .i64 (n4 + 1)))], [some (.box 24 (.d 24 (D.agg [D.str s5, D.slice c6 l7]))), some (.box 54 (.d 54 (D.agg [D.int .u64 n8, D.bool b9, D.int .i64 n10, D.int .u64 n11, D.agg y12, D.int .i64 n13, D.agg [D.int .i64 n14, D.int .i64 n15, D.bool b16], D.slice c17 l18])))]⟩)) else (lab (todoAt (Γ mx) 18 5) ⟨[(0, .sl 35 .any l1), (2, .i .i64 n2), (3, .i .i64 n3), (5, .ptr 0 [] 24), (9, .ptr 1 [] 54), (10, .i .i64 (IntKind.wrap .i64 (n4 + 1)))], [some (.box 24 (.d 24 (D.agg [D.str s5, D.slice c6 l7]))), some (.box 54 (.d 54 (D.agg [D.int .u64 n8, D.bool b9, D.int .i64 n10, D.int .u64 n11, D.agg y12, D.int .i64 n13, D.agg [D.int .i64 n14, D.int .i64 n15, D.bool b16], D.slice c17 l18])))]⟩)) else (lab (todoAt (Γ mx) 18 5) ⟨[(0, .sl 35 .any l1), (2, .i .i64 n2), (3, .i .i64 n3), (5, .ptr 0 [] 24), (9, .ptr 1 [] 54), (10, .i .i64 (IntKind.wrap .i64 (n4 + 1)))], [some (.box 24 (.d 24 (D.agg [D.str s5, D.slice c6 l7]))), some (.box 54 (.d 54 (D.agg [D.int .u64 n8, D.bool b9, D.int .i64 n10, D.int .u64 n11, D.agg y12, D.int .i64 n13, D.agg [D.int .i64 n14, D.int .i64 n15, D.bool b16], D.slice c17 l18])))]⟩)) else (lab (todoAt (Γ mx) 18 5) ⟨[(0, .sl 35 .any l1), (2, .i .i64 n2), (3, .i .i64 n3), (5, .ptr 0 [] 24), (9, .ptr 1 [] 54), (10, .i .i64 (IntKind.wrap .i64 (n4 + 1)))], [some (.box 24 (.d 24 (D.agg [D.str s5, D.slice c6 l7]))), some (.box 54 (.d 54 (D.agg [D.int .u64 n8, D.bool b9, D.int .i64 n10, D.int .u64 n11, D.agg y12, D.int .i64 n13, D.agg [D.int .i64 n14, D.int .i64 n15, D.bool b16], D.slice c17 l18])))]⟩))) else (bif ((l7.length : Int)) == 1 then (bif b9 then (idx l1 n4 fun y57 => dAgg y57 fun y58 => lGet y58 4 fun y59 => dBool y59 fun b60 => bif b60 then (bif decide (n3 ≥ ((-62135596800))) then (some (.b true, [])) else (lab (todoAt (Γ mx) 18 5) ⟨[(0, .sl 35 .any l1), (2, .i .i64 n2), (3, .i .i64 n3), (5, .ptr 0 [] 24), (9, .ptr 1 [] 54), (10, .i .i64 (IntKind.wrap .i64 (n4 + 1)))], [some (.box 24 (.d 24 (D.agg [D.str s5, D.slice c6 l7]))), some (.box 54 (.d 54 (D.agg [D.int .u64 n8, D.bool b9, D.int .i64 n10, D.int .u64 n11, D.agg y12, D.int .i64 n13, D.agg [D.int .i64 n14, D.int .i64 n15, D.bool b16], D.slice c17 l18])))]⟩)) else (lab (todoAt (Γ mx) 18 5) ⟨[(0, .sl 35 .any l1), (2, .i .i64 n2), (3, .i .i64 n3), (5, .ptr 0 [] 24), (9, .ptr 1 [] 54), (10, .i .i64 (IntKind.wrap .i64 (n4 + 1)))], [some (.box 24 (.d 24 (D.agg [D.str s5, D.slice c6 l7]))), some (.box 54 (.d 54 (D.agg [D.int .u64 n8, D.bool b9, D.int .i64 n10, D.int .u64 n11, D.agg y12, D.int .i64 n13, D.agg [D.int .i64 n14, D.int .i64 n15, D.bool b16], D.slice c17 l18])))]⟩)) else (lab (todoAt (Γ mx) 18 5) ⟨[(0, .sl 35 .any l1), (2, .i .i64 n2), (3, .i .i64 n3), (5, .ptr 0 [] 24), (9, .ptr 1 [] 54), (10, .i .i64 (IntKind.wrap .i64 (n4 + 1)))], [some (.box 24 (.d 24 (D.agg [D.str s5, D.slice c6 l7]))), some (.box 54 (.d 54 (D.agg [D.int .u64 n8, D.bool b9, D.int .i64 n10, D.int .u64 n11, D.agg y12, D.int .i64 n13, D.agg [D.int .i64 n14, D.int .i64 n15, D.bool b16], D.slice c17 l18])))]⟩)) else (lab (todoAt (Γ mx) 18 5) ⟨[(0, .sl 35 .any l1), (2, .i .i64 n2), (3, .i .i64 n3), (5, .ptr 0 [] 24), (9, .ptr 1 [] 54), (10, .i .i64 (IntKind.wrap .i64 (n4 + 1)))], [some (.box 24 (.d 24 (D.agg [D.str s5, D.slice c6 l7]))), some (.box 54 (.d 54 (D.agg [D.int .u64 n8, D.bool b9, D.int .i64 n10, D.int .u64 n11, D.agg y12, D.int .i64 n13, D.agg [D.int .i64 n14, D.int .i64 n15, D.bool b16], D.slice c17 l18])))]⟩)))) else none)) else (some (.b false, [])) := by kernel_rfl
def Q7 : Handle := runS [⟨16, dat (spL1 35 rsC fun l => .b (rsB l))⟩, ⟨17, dat (spD1 24 oC fun o => .b (oSnd o))⟩, ⟨18, dat spEr⟩, ⟨19, dat (spDD 35 24 (fun r o => rC r && oC o) fun r o => .b (meantD r o))⟩]
theorem q7 (lab : Lab) (l : List D) (ok : List UInt8) (oc : Cp) (ov : List D) (t : Int) : evF (Γ mx) Q7 lab 7 [.sl 35 .any l, .d 24 (D.agg [D.str ok, D.slice oc ov]), .i .i64 t] [] =
  bif rsC l then (bif !(rsB l) then (some (.tuple [.i .u64 0, .b false, .i .i64 2], [])) else (bif oC (D.agg [D.str ok, D.slice oc ov]) then (bif !(oSnd (D.agg [D.str ok, D.slice oc ov])) then (some (.tuple [.i .u64 0, .b false, .i .i64 2], [])) else (lab (todoAt (Γ mx) 7 4) ⟨[(0, .sl 35 .any l), (2, .i .i64 t), (4, .ptr 0 [] 24), (9, .i .i64 0)], [some (.box 24 (.d 24 (D.agg [D.str ok, D.slice oc ov])))]⟩)) else none)) else none := by kernel_rfl
theorem q7_4a (lab : Lab) (l1 : List D) (n2 : Int) (n3 : Int) (s4 : List UInt8) (c5 : Cp) (l6 : List D) : evL (Γ mx) Q7 lab 7 4 ⟨[(0, .sl 35 .any l1), (2, .i .i64 n2), (4, .ptr 0 [] 24), (9, .i .i64 n3)], [some (.box 24 (.d 24 (D.agg [D.str s4, D.slice c5 l6])))]⟩ =
  bif decide (n3 < ((l6.length : Int))) then (bif erC l1 (D.agg [D.str s4, D.slice c5 l6]) n3 then (bif erD l1 (D.agg [D.str s4, D.slice c5 l6]) n3 n2 then (idx l6 n3 fun y7 => dAgg y7 fun y8 => lGet y8 0 fun y9 => dInt .u64 y9 fun n10 => some (.tuple [.i .u64 n10, .b false, .i .i64 0], [])) else (lab (todoAt (Γ mx) 7 4) ⟨[(0, .sl 35 .any l1), (2, .i .i64 n2), (4, .ptr 0 [] 24), (9, .i .i64 (IntKind.wrap .i64 (n3 + 1)))], [some (.box 24 (.d 24 (D.agg [D.str s4, D.slice c5 l6])))]⟩)) else none) else (idx l6 (IntKind.wrap .i64 (((l6.length : Int)) - 1)) fun y11 => dAgg y11 fun y12 => lCons y12 fun a13 r14 => dInt .u64 a13 fun n15 => lCons r14 fun a16 r17 => dBool a16 fun b18 => lCons r17 fun a19 r20 => dInt .i64 a19 fun n21 => lCons r20 fun a22 r23 => dInt .u64 a22 fun n24 => lCons r23 fun a25 r26 => dAgg a25 fun y27 => lCons r26 fun a28 r29 => dInt .i64 a28 fun n30 => lCons r29 fun a31 r32 => dAgg a31 fun y33 => lCons y33 fun a34 r35 => dInt .i64 a34 fun n36 => lCons r35 fun a37 r38 => dInt .i64 a37 fun n39 => lCons r38 fun a40 r41 => dBool a40 fun b42 => lNil r41 (lCons r32 fun a43 r44 => dSlice a43 fun c45 l46 => lNil r44 (lab (todoAt (Γ mx) 7 10) ⟨[(0, .sl 35 .any l1), (2, .i .i64 n2), (4, .ptr 0 [] 24), (10, .ptr 1 [] 54), (11, .i .i64 0)], [some (.box 24 (.d 24 (D.agg [D.str s4, D.slice c5 l6]))), some (.box 54 (.d 54 (D.agg [D.int .u64 n15, D.bool b18, D.int .i64 n21, D.int .u64 n24, D.agg y27, D.int .i64 n30, D.agg [D.int .i64 n36, D.int .i64 n39, D.bool b42], D.slice c45 l46])))]⟩))) := by kernel_rfl
theorem q7_10a (lab : Lab) (l1 : List D) (n2 : Int) (n3 : Int) (s4 : List UInt8) (c5 : Cp) (l6 : List D) (n7 : Int) (b8 : Bool) (n9 : Int) (n10 : Int) (y11 : List D) (n12 : Int) (n13 : Int) (n14 : Int) (b15 : Bool) (c16 : Cp) (l17 : List D) : evL (Γ mx) Q7 lab 7 10 ⟨[(0, .sl 35 .any l1), (2, .i .i64 n2), (4, .ptr 0 [] 24), (10, .ptr 1 [] 54), (11, .i .i64 n3)], [some (.box 24 (.d 24 (D.agg [D.str s4, D.slice c5 l6]))), some (.box 54 (.d 54 (D.agg [D.int .u64 n7, D.bool b8, D.int .i64 n9, D.int .u64 n10, D.agg y11, D.int .i64 n12, D.agg [D.int .i64 n13, D.int .i64 n14, D.bool b15], D.slice c16 l17])))]⟩ =
  bif decide (n3 < ((l1.length : Int))) then (idx l1 n3 fun y18 => dAgg y18 fun y19 => lCons y19 fun a20 r21 => dStr a20 fun s22 => lCons r21 fun a23 r24 => dSlice a23 fun c25 l26 => lCons r24 fun a27 r28 => dInt .i64 a27 fun n29 => lCons r28 fun a30 r31 => dInt .i64 a30 fun n32 => lCons r31 fun a33 r34 => dBool a33 fun b35 => lNil r34 (bif rC (D.agg [D.str s22, D.slice c25 l26, D.int .i64 n29, D.int .i64 n32, D.bool b35]) && oC (D.agg [D.str s4, D.slice c5 l6]) then (bif meantD (D.agg [D.str s22, D.slice c25 l26, D.int .i64 n29, D.int .i64 n32, D.bool b35]) (D.agg [D.str s4, D.slice c5 l6]) then (idx l1 n3 fun y36 => dAgg y36 fun y37 => lGet y37 2 fun y38 => dInt .i64 y38 fun n39 => bif decide (n39 > 0) then (bif !b8 then (idx l1 n3 fun y40 => dAgg y40 fun y41 => lGet y41 2 fun y42 => dInt .i64 y42 fun n43 => bif decide (n2 ≥ (IntKind.wrap .i64 (n12 + (IntKind.wrap .i64 (n43 * 86400))))) then (some (.tuple [.i .u64 0, .b true, .i .i64 0], [])) else (lab (todoAt (Γ mx) 7 10) ⟨[(0, .sl 35 .any l1), (2, .i .i64 n2), (4, .ptr 0 [] 24), (10, .ptr 1 [] 54), (11, .i .i64 (IntKind.wrap .i64 (n3 + 1)))], [some (.box 24 (.d 24 (D.agg [D.str s4, D.slice c5 l6]))), some (.box 54 (.d 54 (D.agg [D.int .u64 n7, D.bool b8, D.int .i64 n9, D.int .u64 n10, D.agg y11, D.int .i64 n12, D.agg [D.int .i64 n13, D.int .i64 n14, D.bool b15], D.slice c16 l17])))]⟩)) else (lab (todoAt (Γ mx) 7 10) ⟨[(0, .sl 35 .any l1), (2, .i .i64 n2), (4, .ptr 0 [] 24), (10, .ptr 1 [] 54), (11, .i .i64 (IntKind.wrap .i64 (n3 + 1)))], [some (.box 24 (.d 24 (D.agg [D.str s4, D.slice c5 l6]))), some (.box 54 (.d 54 (D.agg [D.int .u64 n7, D.bool b8, D.int .i64 n9, D.int .u64 n10, D.agg y11, D.int .i64 n12, D.agg [D.int .i64 n13, D.int .i64 n14, D.bool b15], D.slice c16 l17])))]⟩)) else (lab (todoAt (Γ mx) 7 10) ⟨[(0, .sl 35 .any l1), (2, .i .i64 n2), (4, .ptr 0 [] 24), (10, .ptr 1 [] 54), (11, .i .i64 (IntKind.wrap .i64 (n3 + 1)))], [some (.box 24 (.d 24 (D.agg [D.str s4, D.slice c5 l6]))), some (.box 54 (.d 54 (D.agg [D.int .u64 n7, D.bool b8, D.int .i64 n9, D.int .u64 n10, D.agg y11, D.int .i64 n12, D.agg [D.int .i64 n13, D.int .i64 n14, D.bool b15], D.slice c16 l17])))]⟩)) else (lab (todoAt (Γ mx) 7 10) ⟨[(0, .sl 35 .any l1), (2, .i .i64 n2), (4, .ptr 0 [] 24), (10, .ptr 1 [] 54), (11, .i .i64 (IntKind.wrap .i64 (n3 + 1)))], [some (.box 24 (.d 24 (D.agg [D.str s4, D.slice c5 l6]))), some (.box 54 (.d 54 (D.agg [D.int .u64 n7, D.bool b8, D.int .i64 n9, D.int .u64 n10, D.agg y11, D.int .i64 n12, D.agg [D.int .i64 n13, D.int .i64 n14, D.bool b15], D.slice c16 l17])))]⟩)) else none)) else (some (.tuple [.i .u64 0, .b false, .i .i64 0], [])) := by kernel_rfl
def Q6 : Handle := runS [⟨14, dat (spLD 35 24 (fun l o => rsC l && oC o) fun l o => .b (goodB l o))⟩, ⟨15, dat (spLD 35 24 (fun l o => rsC l && (oC o && goodB l o)) fun l o => .sl 47 .any (evsL l o))⟩]
theorem q6 (lab : Lab) (l : List D) (ok : List UInt8) (oc : Cp) (ov : List D) : evF (Γ mx) Q6 lab 6 [.sl 35 .any l, .d 24 (D.agg [D.str ok, D.slice oc ov])] [] =
  bif rsC l && oC (D.agg [D.str ok, D.slice oc ov]) then (bif !(goodB l (D.agg [D.str ok, D.slice oc ov])) then (some (.tuple [.i .i64 0, .b false, .i .i64 2], [])) else (bif rsC l && (oC (D.agg [D.str ok, D.slice oc ov]) && goodB l (D.agg [D.str ok, D.slice oc ov])) then (lab (todoAt (Γ mx) 6 5) ⟨[(7, .i .i64 0), (8, .b false), (18, .sl 47 .any (evsL l (D.agg [D.str ok, D.slice oc ov]))), (19, .i .i64 (((evsL l (D.agg [D.str ok, D.slice oc ov])).length : Int))), (20, .i .i64 0)], []⟩) else none)) else none := by kernel_rfl
theorem q6_5a (lab : Lab) (n1 : Int) (b2 : Bool) (l3 : List D) (n4 : Int) (n5 : Int) : evL (Γ mx) Q6 lab 6 5 ⟨[(7, .i .i64 n1), (8, .b b2), (18, .sl 47 .any l3), (19, .i .i64 n4), (20, .i .i64 n5)], []⟩ =
  bif decide (n5 < n4) then (idx l3 n5 fun y6 => dAgg y6 fun y7 => lCons y7 fun a8 r9 => dInt .i64 a8 fun n10 => lCons r9 fun a11 r12 => dInt .u64 a11 fun n13 => lCons r12 fun a14 r15 => dAgg a14 fun y16 => lCons y16 fun a17 r18 => dInt .i64 a17 fun n19 => lCons r18 fun a20 r21 => dInt .i64 a20 fun n22 => lCons r21 fun a23 r24 => dBool a23 fun b25 => lNil r24 (lNil r15 (bif b25 then (lab (todoAt (Γ mx) 6 5) ⟨[(7, .i .i64 n1), (8, .b b2), (18, .sl 47 .any l3), (19, .i .i64 n4), (20, .i .i64 (IntKind.wrap .i64 (n5 + 1)))], []⟩) else (bif decide (n10 > 253402300799) then (lab (todoAt (Γ mx) 6 5) ⟨[(7, .i .i64 n1), (8, .b b2), (18, .sl 47 .any l3), (19, .i .i64 n4), (20, .i .i64 (IntKind.wrap .i64 (n5 + 1)))], []⟩) else (bif n19 != 0 then (bif !b2 then (lab (todoAt (Γ mx) 6 5) ⟨[(7, .i .i64 (bif decide ((bif decide ((n10 : Int) < ((-62135596800))) then (-62135596800) else n10 : Int) < n22) then n22 else (bif decide ((n10 : Int) < ((-62135596800))) then (-62135596800) else n10))), (8, .b true), (18, .sl 47 .any l3), (19, .i .i64 n4), (20, .i .i64 (IntKind.wrap .i64 (n5 + 1)))], []⟩) else (bif decide ((bif decide ((bif decide ((n10 : Int) < ((-62135596800))) then (-62135596800) else n10 : Int) < n22) then n22 else (bif decide ((n10 : Int) < ((-62135596800))) then (-62135596800) else n10)) < n1) then (lab (todoAt (Γ mx) 6 5) ⟨[(7, .i .i64 (bif decide ((bif decide ((n10 : Int) < ((-62135596800))) then (-62135596800) else n10 : Int) < n22) then n22 else (bif decide ((n10 : Int) < ((-62135596800))) then (-62135596800) else n10))), (8, .b true), (18, .sl 47 .any l3), (19, .i .i64 n4), (20, .i .i64 (IntKind.wrap .i64 (n5 + 1)))], []⟩) else (lab (todoAt (Γ mx) 6 5) ⟨[(7, .i .i64 n1), (8, .b b2), (18, .sl 47 .any l3), (19, .i .i64 n4), (20, .i .i64 (IntKind.wrap .i64 (n5 + 1)))], []⟩))) else (bif !b2 then (lab (todoAt (Γ mx) 6 5) ⟨[(7, .i .i64 (bif decide ((n10 : Int) < ((-62135596800))) then (-62135596800) else n10)), (8, .b true), (18, .sl 47 .any l3), (19, .i .i64 n4), (20, .i .i64 (IntKind.wrap .i64 (n5 + 1)))], []⟩) else (bif decide ((bif decide ((n10 : Int) < ((-62135596800))) then (-62135596800) else n10) < n1) then (lab (todoAt (Γ mx) 6 5) ⟨[(7, .i .i64 (bif decide ((n10 : Int) < ((-62135596800))) then (-62135596800) else n10)), (8, .b true), (18, .sl 47 .any l3), (19, .i .i64 n4), (20, .i .i64 (IntKind.wrap .i64 (n5 + 1)))], []⟩) else (lab (todoAt (Γ mx) 6 5) ⟨[(7, .i .i64 n1), (8, .b b2), (18, .sl 47 .any l3), (19, .i .i64 n4), (20, .i .i64 (IntKind.wrap .i64 (n5 + 1)))], []⟩)))))))) else (some (.tuple [.i .i64 n1, .b b2, .i .i64 0], [])) := by kernel_rfl
def Q3 : Handle := runS [⟨6, dat (spLD 35 24 (fun l o => rsC l && oC o) fun l o => .tuple [.i .i64 (snT l o), .b (snB l o), .i .i64 (dueE l o)])⟩, ⟨7, dat (spLDt 35 24 (fun l o => rsC l && oC o) fun l o t => .tuple [.i .u64 (rdI l o t), .b (rdM l o t), .i .i64 (dueE l o)])⟩, ⟨8, dat (sp0 true (.b true))⟩]
theorem q3 (lab : Lab) (l : List D) (ok : List UInt8) (oc : Cp) (ov : List D) : evF (ΓR mx) Q3 lab 3 [.sl 35 .any l, .d 24 (D.agg [D.str ok, D.slice oc ov])] [] =
  bif rsC l && oC (D.agg [D.str ok, D.slice oc ov]) then (bif rsC l && oC (D.agg [D.str ok, D.slice oc ov]) then (bif (dueE l (D.agg [D.str ok, D.slice oc ov])) != 0 then (bif (dueE l (D.agg [D.str ok, D.slice oc ov])) == (dueE l (D.agg [D.str ok, D.slice oc ov])) then (bif !(snB l (D.agg [D.str ok, D.slice oc ov])) then (some (.b ((snT l (D.agg [D.str ok, D.slice oc ov])) == 0), [])) else (some (.b false, []))) else (some (.b false, []))) else (bif (dueE l (D.agg [D.str ok, D.slice oc ov])) != 0 then (some (.b false, [])) else (bif (rdI l (D.agg [D.str ok, D.slice oc ov]) 253402300799) != 0 then (bif !((snB l (D.agg [D.str ok, D.slice oc ov])) == true) then (some (.b false, [])) else (bif !(snB l (D.agg [D.str ok, D.slice oc ov])) then (some (.b ((snT l (D.agg [D.str ok, D.slice oc ov])) == 0), [])) else (bif rsC l && oC (D.agg [D.str ok, D.slice oc ov]) then (bif (rdI l (D.agg [D.str ok, D.slice oc ov]) (snT l (D.agg [D.str ok, D.slice oc ov]))) == 0 then (bif !(rdM l (D.agg [D.str ok, D.slice oc ov]) (snT l (D.agg [D.str ok, D.slice oc ov]))) then (some (.b false, [])) else (bif (dueE l (D.agg [D.str ok, D.slice oc ov])) != 0 then (some (.b false, [])) else (bif decide ((snT l (D.agg [D.str ok, D.slice oc ov])) < ((-62135596800))) then (some (.b false, [])) else (bif decide ((snT l (D.agg [D.str ok, D.slice oc ov])) > 253402300799) then (some (.b false, [])) else (bif (snT l (D.agg [D.str ok, D.slice oc ov])) == ((-62135596800)) then (some (.b true, [])) else (bif rsC l && oC (D.agg [D.str ok, D.slice oc ov]) then (bif (dueE l (D.agg [D.str ok, D.slice oc ov])) == 0 then (bif (rdI l (D.agg [D.str ok, D.slice oc ov]) (IntKind.wrap .i64 ((snT l (D.agg [D.str ok, D.slice oc ov])) - 1))) == 0 then (some (.b (!(rdM l (D.agg [D.str ok, D.slice oc ov]) (IntKind.wrap .i64 ((snT l (D.agg [D.str ok, D.slice oc ov])) - 1)))), [])) else (some (.b false, []))) else (some (.b false, []))) else none)))))) else (bif (dueE l (D.agg [D.str ok, D.slice oc ov])) != 0 then (some (.b false, [])) else (bif decide ((snT l (D.agg [D.str ok, D.slice oc ov])) < ((-62135596800))) then (some (.b false, [])) else (bif decide ((snT l (D.agg [D.str ok, D.slice oc ov])) > 253402300799) then (some (.b false, [])) else (bif (snT l (D.agg [D.str ok, D.slice oc ov])) == ((-62135596800)) then (some (.b true, [])) else (bif rsC l && oC (D.agg [D.str ok, D.slice oc ov]) then (bif (dueE l (D.agg [D.str ok, D.slice oc ov])) == 0 then (bif (rdI l (D.agg [D.str ok, D.slice oc ov]) (IntKind.wrap .i64 ((snT l (D.agg [D.str ok, D.slice oc ov])) - 1))) == 0 then (some (.b (!(rdM l (D.agg [D.str ok, D.slice oc ov]) (IntKind.wrap .i64 ((snT l (D.agg [D.str ok, D.slice oc ov])) - 1)))), [])) else (some (.b false, []))) else (some (.b false, []))) else none)))))) else none))) else (bif !((snB l (D.agg [D.str ok, D.slice oc ov])) == (rdM l (D.agg [D.str ok, D.slice oc ov]) 253402300799)) then (some (.b false, [])) else (bif !(snB l (D.agg [D.str ok, D.slice oc ov])) then (some (.b ((snT l (D.agg [D.str ok, D.slice oc ov])) == 0), [])) else (bif rsC l && oC (D.agg [D.str ok, D.slice oc ov]) then (bif (rdI l (D.agg [D.str ok, D.slice oc ov]) (snT l (D.agg [D.str ok, D.slice oc ov]))) == 0 then (bif !(rdM l (D.agg [D.str ok, D.slice oc ov]) (snT l (D.agg [D.str ok, D.slice oc ov]))) then (some (.b false, [])) else (bif (dueE l (D.agg [D.str ok, D.slice oc ov])) != 0 then (some (.b false, [])) else (bif decide ((snT l (D.agg [D.str ok, D.slice oc ov])) < ((-62135596800))) then (some (.b false, [])) else (bif decide ((snT l (D.agg [D.str ok, D.slice oc ov])) > 253402300799) then (some (.b false, [])) else (bif (snT l (D.agg [D.str ok, D.slice oc ov])) == ((-62135596800)) then (some (.b true, [])) else (bif rsC l && oC (D.agg [D.str ok, D.slice oc ov]) then (bif (dueE l (D.agg [D.str ok, D.slice oc ov])) == 0 then (bif (rdI l (D.agg [D.str ok, D.slice oc ov]) (IntKind.wrap .i64 ((snT l (D.agg [D.str ok, D.slice oc ov])) - 1))) == 0 then (some (.b (!(rdM l (D.agg [D.str ok, D.slice oc ov]) (IntKind.wrap .i64 ((snT l (D.agg [D.str ok, D.slice oc ov])) - 1)))), [])) else (some (.b false, []))) else (some (.b false, []))) else none)))))) else (bif (dueE l (D.agg [D.str ok, D.slice oc ov])) != 0 then (some (.b false, [])) else (bif decide ((snT l (D.agg [D.str ok, D.slice oc ov])) < ((-62135596800))) then (some (.b false, [])) else (bif decide ((snT l (D.agg [D.str ok, D.slice oc ov])) > 253402300799) then (some (.b false, [])) else (bif (snT l (D.agg [D.str ok, D.slice oc ov])) == ((-62135596800)) then (some (.b true, [])) else (bif rsC l && oC (D.agg [D.str ok, D.slice oc ov]) then (bif (dueE l (D.agg [D.str ok, D.slice oc ov])) == 0 then (bif (rdI l (D.agg [D.str ok, D.slice oc ov]) (IntKind.wrap .i64 ((snT l (D.agg [D.str ok, D.slice oc ov])) - 1))) == 0 then (some (.b (!(rdM l (D.agg [D.str ok, D.slice oc ov]) (IntKind.wrap .i64 ((snT l (D.agg [D.str ok, D.slice oc ov])) - 1)))), [])) else (some (.b false, []))) else (some (.b false, []))) else none)))))) else none)))))) else none) else none := by kernel_rfl
end Go.Proofs.YtjbemleloffafaaGreatDoor.V

/- RulesSoon: contracts of the document's functions: locks, versions, objects, rules, tags. -/
namespace Go.Proofs.YtjbemleloffafaaGreatDoor.V
open Go
set_option maxRecDepth 100000
set_option linter.unusedVariables false
set_option linter.unusedSimpArgs false
variable {mx : Int}
theorem k75 (d : D) (t : Int) (h : isLk d = true) : RetX (Γ mx) 75 [.d 45 d, .i .i64 t] [] (.b (bindsD d t)) [] := by
  obtain ⟨a, b, c, rfl⟩ := isLk_ex h
  refine ret_goes (Γ := Γ mx) hP hZ none_ok (by kernel_rfl) ⟨0, ?_⟩
  rw [q75, bindsD]
  show _ = some (AV.b (!(a == 0) && decide (t < b)), [])
  cases a == 0 <;> rfl
theorem kh48_ok : CallsOK (Γ mx) Q48 := specs_ok (.cons (spDt_ok k75) .nil)
theorem k48 (d : D) (t : Int) (h : isLk d = true) : RetX (Γ mx) 48 [.d 45 d, .i .i64 t] [] (.b (heldD d t)) [] := by
  obtain ⟨a, b, c, rfl⟩ := isLk_ex h
  refine ret_goes (Γ := Γ mx) hP hZ kh48_ok (by kernel_rfl) ⟨0, ?_⟩
  rw [q48, heldD]
  cases c <;> rfl
theorem k99 (n : Int) : RetX (Γ mx) 99 [.i .i64 n] [] (.i .i64 (clampZ n)) [] := by
  refine ret_goes (Γ := Γ mx) hP hZ none_ok (by kernel_rfl) ⟨0, ?_⟩
  rw [q99]
  unfold clampZ
  by_cases h : n < -62135596800
  · rw [decide_eq_true h, decide_eq_false (show ¬ (253402300799 : Int) < n by omega)]
    show some (AV.i .i64 (-62135596800), []) = some (AV.i .i64 (bif decide ((-62135596800 : Int) < n) then n else (-62135596800)), [])
    rw [decide_eq_false (show ¬ (-62135596800 : Int) < n by omega)]; rfl
  · rw [decide_eq_false h]
    by_cases h2 : n > 253402300799
    · rw [decide_eq_true h2]; rfl
    · rw [decide_eq_false h2]
      show some (AV.i .i64 n, []) = some (AV.i .i64 (bif decide ((-62135596800 : Int) < n) then n else (-62135596800)), [])
      by_cases h3 : -62135596800 < n
      · rw [decide_eq_true h3]; rfl
      · have : n = -62135596800 := by omega
        subst this; rfl
theorem kh100_ok : CallsOK (Γ mx) Q100 := specs_ok (.cons (spClamp_ok k99) .nil)
theorem beq_swap (a b : Int) : (a == b) = (b == a) := by
  by_cases h : a = b
  · rw [h]
  · rw [beq_eq_false_iff_ne.2 h, beq_eq_false_iff_ne.2 (Ne.symm h)]
theorem k100 (d : D) (h : isLk d = true) : RetX (Γ mx) 100 [.d 45 d] [] (.b (lkB d)) [] := by
  obtain ⟨a, b, c, rfl⟩ := isLk_ex h
  refine ret_goes (Γ := Γ mx) hP hZ kh100_ok (by kernel_rfl) ⟨0, ?_⟩
  rw [q100, lkB, beq_swap (clampZ b) b]
  cases a == 0 <;> cases a == 1 <;> cases a == 2 <;> rfl
theorem k44 (p : List UInt8) (h : short p = true) : RetX (Γ mx) 44 [.s p] [] (.b (cleanV p)) [] := c55 p h
theorem k45 (l : List D) (h : tC l = true) : RetX (Γ mx) 45 [.sl 84 .any l] [] (.b (tsB l)) [] := c27 l h
theorem kh74_ok : CallsOK (Γ mx) Q74 := specs_ok (.cons (spClamp_ok k99) (.cons (spD1_ok k100) (.cons (spL1s_ok k45) .nil)))
def isZ8 : D → Bool
  | .int _ n => n == 0
  | _ => false
theorem isU8_ex {d : D} (h : isU8 d = true) : ∃ n, d = .int .u8 n := by
  unfold isU8 at h
  split at h
  · exact ⟨_, rfl⟩
  · exact absurd h (by simp)
theorem eqDs_rep : ∀ l : List D, l.all isU8 = true → eqDs l (List.replicate l.length (.int .u8 0)) = l.all isZ8
  | [], _ => rfl
  | d :: r, h => by
    have h : isU8 d = true ∧ r.all isU8 = true := by simpa using h
    obtain ⟨n, rfl⟩ := isU8_ex h.1
    rw [List.length_cons, List.replicate_succ, List.all_cons, ← eqDs_rep r h.2]; rfl
theorem dg_eq {l : List D} (h : dgC l = true) : eqD (.agg l) dg0 = l.all isZ8 := by
  unfold dgC at h
  simp only [Bool.and_eq_true, decide_eq_true_eq] at h
  rw [← eqDs_rep l h.2, h.1]; rfl
def tail74 (v : Ver) : Bool := v.sz == 0 && (v.bl == 0 && (v.md == 0 && (v.un == 0 && (!v.ho && ((v.tg.length : Int) == 0)))))
theorem g74 (v : Ver) (hl : v.dg.length = 32) (ha : v.dg.all isU8 = true) : ∀ (rest pre : List D) (i : Int), v.dg = pre ++ rest → i = (pre.length : Int) →
    Goes (Γ mx) Q74 74 6 ⟨[(1, .ptr 0 [] 54), (3, .i .i64 i)], [some (.box 54 (.d 54 (vD v)))]⟩ (.b (rest.all isZ8 && tail74 v), [])
  | [], pre, i, he, hi => by
    subst hi
    have h32 : pre.length = 32 := by rw [← hl, he]; simp
    refine Goes.step ⟨0, (q74_6a ..).trans ?_⟩
    rw [decide_eq_false (show ¬ (pre.length : Int) < 32 by omega), cond_false]
    show _ = some (AV.b (v.sz == 0 && (v.bl == 0 && (v.md == 0 && (v.un == 0 && (!v.ho && ((v.tg.length : Int) == 0)))))), [])
    cases v.sz == 0 <;> cases v.bl == 0 <;> cases v.md == 0 <;> cases v.un == 0 <;> cases v.ho <;> rfl
  | x :: r, pre, i, he, hi => by
    subst hi
    have h32 : pre.length + (r.length + 1) = 32 := by rw [← hl, he]; simp
    obtain ⟨m, rfl⟩ := isU8_ex (List.all_eq_true.1 ha x (by rw [he]; simp))
    have hw : IntKind.wrap .i64 ((pre.length : Int) + 1) = (pre.length : Int) + 1 := wrapI (by omega) (by omega)
    obtain ⟨n, hn⟩ := g74 v hl ha r (pre ++ [.int .u8 m]) ((pre.length : Int) + 1) (by rw [he]; simp) (by simp)
    have hid : ∀ {R : Type} (K : D → Option R), lGet v.dg (Int.toNat (pre.length : Int)) K = K (.int .u8 m) := fun K => by rw [he, Int.toNat_natCast]; unfold lGet; simp
    refine Goes.step ⟨n, (q74_6a ..).trans ?_⟩
    rw [decide_eq_true (show (pre.length : Int) < 32 by omega), decide_eq_true (show (0 : Int) ≤ (pre.length : Int) by omega), cond_true, hid, hw]
    show (bif m != 0 then _ else _) = some (AV.b (((m == 0) && r.all isZ8) && tail74 v), [])
    by_cases hm : m = 0
    · subst hm; exact hn
    · rw [show (m != 0) = true by simpa using hm, show (m == 0) = false by simpa using hm]; rfl
theorem k74 (d : D) (h : vC d = true) : RetX (Γ mx) 74 [.d 54 d] [] (.b (vGood d)) [] := by
  obtain ⟨v, rfl, ht⟩ := vC_ex h
  have hd := vC_dg h
  have hi := vC_id h
  have hd2 := hd
  unfold dgC at hd2
  simp only [Bool.and_eq_true, decide_eq_true_eq] at hd2
  obtain ⟨n, hn⟩ := g74 (mx := mx) v hd2.1 hd2.2 v.dg [] 0 rfl rfl
  refine ret_goes (Γ := Γ mx) hP hZ kh74_ok (by kernel_rfl) ⟨n, ?_⟩
  refine (q74 _ v.id v.mr v.sz v.bl v.dg v.cr v.md v.un v.ho v.c v.tg).trans ?_
  show _ = some (AV.b (goodV v), [])
  have e0 : decide (v.id < 1) = (v.id == 0) := by
    by_cases h0 : v.id = 0
    · rw [h0]; rfl
    · rw [decide_eq_false (by omega), beq_eq_false_iff_ne.2 h0]
  have e1 : (clampZ v.cr != v.cr) = (v.cr != clampZ v.cr) := by rw [bne, beq_swap]; rfl
  have e2 : eqD (lkV v) lk0 = (v.md == 0 && (v.un == 0 && (!v.ho && true))) := by
    show ((v.md == 0) && ((v.un == 0) && ((v.ho == false) && true))) = _
    cases v.ho <;> rfl
  rw [ht, goodV, e0, e1, e2, dg_eq hd, show decide (v.bl ≥ 1) = decide (v.bl > 0) from decide_eq_decide.2 (by omega)]
  cases v.id == 0 with
  | true => rfl
  | false =>
    cases v.cr != clampZ v.cr with
    | true => rfl
    | false =>
      cases hm : v.mr with
      | true =>
        have ev : vD v = D.agg [D.int .u64 v.id, D.bool true, D.int .i64 v.sz, D.int .u64 v.bl, D.agg v.dg, D.int .i64 v.cr, D.agg [D.int .i64 v.md, D.int .i64 v.un, D.bool v.ho], D.slice v.c v.tg] := by unfold vD; rw [hm]
        rw [ev] at hn
        simp only [cond_false, cond_true, Bool.not_true]
        refine Eq.trans ?_ (hn.trans ?_)
        · rfl
        · unfold tail74
          cases v.dg.all isZ8 <;> cases v.sz == 0 <;> cases v.bl == 0 <;> cases v.md == 0 <;> cases v.un == 0 <;> cases v.ho <;> rfl
      | false =>
        simp only [cond_false, cond_true, Bool.not_false]
        rw [show lkB (D.agg [D.int .i64 v.md, D.int .i64 v.un, D.bool v.ho]) = lkB (lkV v) from rfl]
        cases decide (v.sz ≥ 0) <;> cases decide (v.sz ≤ 16384) <;> cases decide (v.bl > 0) <;> cases lkB (lkV v) <;> rfl
theorem kh47_ok : CallsOK (Γ mx) Q47 := specs_ok (.cons (spD1_ok k74) .nil)
theorem kg47 (l : List D) (hl : l.length ≤ 8388608) (ha : l.all vC = true) : ∀ (rest : List Ver) (pre : List D) (i : Int), l = pre ++ rest.map vD → i = (pre.length : Int) →
    Goes (Γ mx) Q47 47 2 ⟨[(0, .sl 54 .any l), (3, .i .i64 i)], []⟩ (.b (ris1 (prevO pre) rest), [])
  | [], pre, i, he, hi => by
    subst hi
    refine Goes.step ⟨0, ?_⟩
    rw [q47_2a, decide_eq_false (show ¬ (pre.length : Int) < (l.length : Int) by rw [he]; simp)]
    cases prevO pre <;> rfl
  | v :: r, pre, i, he, hi => by
    subst hi
    have hlen : l.length = pre.length + (r.length + 1) := by rw [he]; simp
    have hs : vC (vD v) = true := List.all_eq_true.1 ha _ (by rw [he]; simp)
    have hid : ∀ {R : Type} (K : D → Option R), idx l (pre.length : Int) K = K (vD v) := fun K => by rw [he]; exact idx_mid pre (r.map vD) _ K
    have hw : IntKind.wrap .i64 ((pre.length : Int) + 1) = (pre.length : Int) + 1 := wrapI (by omega) (by omega)
    obtain ⟨n, hn⟩ := kg47 l hl ha r (pre ++ [vD v]) ((pre.length : Int) + 1) (by rw [he]; simp) (by simp)
    rw [prevO_app] at hn
    refine Goes.step ⟨n, ?_⟩
    rw [q47_2a, decide_eq_true (show (pre.length : Int) < (l.length : Int) by omega), cond_true, hid, hw]
    show (bif vC (vD v) then (bif !vGood (vD v) then _ else _) else _) = _
    rw [hs, cond_true, show vGood (vD v) = goodV v from rfl]
    rcases List.eq_nil_or_concat pre with rfl | ⟨q, x, rfl⟩
    · show _ = some (AV.b (goodV v && ris1 (some v) r), [])
      cases goodV v with
      | false => rfl
      | true => exact hn
    · rw [List.concat_eq_append] at *
      have hsp : vC x = true := List.all_eq_true.1 ha x (by rw [he]; simp)
      obtain ⟨p, rfl, _⟩ := vC_ex hsp
      rw [prevO_app]
      have hw2 : IntKind.wrap .i64 (((q ++ [vD p]).length : Int) - 1) = (q.length : Int) := by rw [wrapI (by omega) (by simp at hlen ⊢; omega)]; simp
      have hid2 : ∀ {R : Type} (K : D → Option R), idx l (q.length : Int) K = K (vD p) := fun K => by rw [he, List.append_assoc]; exact idx_mid q _ _ K
      rw [decide_eq_true (show (((q ++ [vD p]).length : Int)) > 0 by simp <;> omega), cond_true, hid, hw2]
      show _ = some (AV.b (goodV v && (behV v p && ris1 (some v) r)), [])
      cases goodV v with
      | false => rfl
      | true =>
        show idx l (q.length : Int) (fun y43 => _) = _
        rw [hid2]
        show (bif decide (v.id ≤ p.id) then some (AV.b false, []) else idx l ((q ++ [vD p]).length : Int) fun y47 => _) = _
        rw [hid]
        show (bif decide (v.id ≤ p.id) then some (AV.b false, []) else idx l (q.length : Int) fun y51 => _) = _
        rw [hid2]
        show (bif decide (v.id ≤ p.id) then some (AV.b false, []) else bif decide (v.cr < p.cr) then some (AV.b false, []) else _) = _
        unfold behV
        by_cases h1 : v.id ≤ p.id
        · rw [decide_eq_true h1, decide_eq_false (show ¬ v.id > p.id by omega)]; rfl
        · rw [decide_eq_false h1, decide_eq_true (show v.id > p.id by omega)]
          by_cases h2 : v.cr < p.cr
          · rw [decide_eq_true h2, decide_eq_false (show ¬ v.cr ≥ p.cr by omega)]; rfl
          · rw [decide_eq_false h2, decide_eq_true (show v.cr ≥ p.cr by omega)]; exact hn
theorem k47 (l : List D) (h : vsC l = true) : RetX (Γ mx) 47 [.sl 54 .any l] [] (.b (risB l)) [] := by
  obtain ⟨h1, h2⟩ := vsC_eq h
  obtain ⟨vs, e1, e2⟩ := vs_ex h2
  obtain ⟨n, hn⟩ := kg47 (mx := mx) l h1 h2 vs [] 0 e1 rfl
  refine ret_goes (Γ := Γ mx) hP hZ kh47_ok (by kernel_rfl) ⟨n, ?_⟩
  rw [q47, risB, e2]; exact hn
theorem kh46_ok : CallsOK (Γ mx) Q46 := specs_ok (.cons (sp1_ok k44) .nil)
theorem k46 (s : List UInt8) (h : short s = true) : RetX (Γ mx) 46 [.s s] [] (.b (keyB s)) [] := by
  refine ret_goes (Γ := Γ mx) hP hZ kh46_ok (by kernel_rfl) ⟨0, ?_⟩
  have e : decide ((s.length : Int) ≥ 1) = !(s == []) := by
    cases s with
    | nil => rfl
    | cons c r => rw [decide_eq_true (by simp only [List.length_cons]; omega)]; rfl
  rw [q46, keyB, h, show decide ((s.length : Int) ≤ 200) = decide (s.length ≤ 200) from i64_le _ 200, e]
  cases s == [] <;> cases decide (s.length ≤ 200) <;> rfl
theorem kh17_ok : CallsOK (Γ mx) Q17 := specs_ok (.cons (sp1_ok k46) (.cons (spL1_ok k47) .nil))
theorem k17 (o : D) (h : oC o = true) : RetX (Γ mx) 17 [.d 24 o] [] (.b (oSnd o)) [] := by
  obtain ⟨k, c, l, rfl, h1, h2⟩ := oC_ex h
  refine ret_goes (Γ := Γ mx) hP hZ kh17_ok (by kernel_rfl) ⟨0, ?_⟩
  rw [q17, h1, h2, show decide ((l.length : Int) ≥ 1) = decide (0 < l.length) from decide_eq_decide.2 (by omega)]
  show _ = some (AV.b (keyB k && (decide (0 < l.length) && risB l)), [])
  cases keyB k <;> cases decide (0 < l.length) <;> rfl
theorem kh16_ok : CallsOK (Γ mx) Q16 := specs_ok (.cons (sp1_ok k44) (.cons (spL1s_ok k45) .nil))
theorem lt_ge (a b : Int) : decide (a < b) = !decide (a ≥ b) := by
  by_cases h : a < b
  · rw [decide_eq_true h, decide_eq_false (by omega)]; rfl
  · rw [decide_eq_false h, decide_eq_true (by omega)]; rfl
theorem gt_le (a b : Int) : decide (a > b) = !decide (a ≤ b) := by
  by_cases h : a > b
  · rw [decide_eq_true h, decide_eq_false (by omega)]; rfl
  · rw [decide_eq_false h, decide_eq_true (by omega)]; rfl
theorem kg16 (l : List D) (hl : l.length ≤ 8388608) (ha : l.all rC = true) : ∀ (rest pre : List D) (i : Int), l = pre ++ rest → i = (pre.length : Int) →
    Goes (Γ mx) Q16 16 4 ⟨[(0, .sl 35 .any l), (3, .i .i64 i)], []⟩ (.b (rest.all rGood), [])
  | [], pre, i, he, hi => by
    subst hi
    refine Goes.step ⟨0, ?_⟩
    rw [q16_4a, decide_eq_false (show ¬ (pre.length : Int) < (l.length : Int) by rw [he]; simp)]
    rfl
  | x :: r, pre, i, he, hi => by
    subst hi
    have hlen : l.length = pre.length + (r.length + 1) := by rw [he]; simp
    have hs : rC x = true := List.all_eq_true.1 ha _ (by rw [he]; simp)
    obtain ⟨p, c, t, a, b, m, rfl, h1, h2⟩ := rC_ex hs
    have hid : ∀ {R : Type} (K : D → Option R), idx l (pre.length : Int) K = K (D.agg [.str p, .slice c t, .int .i64 a, .int .i64 b, .bool m]) := fun K => by rw [he]; exact idx_mid pre r _ K
    have hw : IntKind.wrap .i64 ((pre.length : Int) + 1) = (pre.length : Int) + 1 := wrapI (by omega) (by omega)
    obtain ⟨n, hn⟩ := kg16 l hl ha r (pre ++ [D.agg [.str p, .slice c t, .int .i64 a, .int .i64 b, .bool m]]) ((pre.length : Int) + 1) (by rw [he]; simp) (by simp)
    refine Goes.step ⟨n, ?_⟩
    rw [q16_4a, decide_eq_true (show (pre.length : Int) < (l.length : Int) by omega), cond_true, hid, hw]
    show (bif decide ((p.length : Int) > 200) then _ else (bif short p then (bif !cleanV p then _ else (bif tC t then (bif !tsB t then _ else (bif decide (a < 0) then _ else (bif decide (a > 36500) then _ else (bif decide (b < 0) then _ else (bif decide (b > 36500) then _ else _))))) else _)) else _)) = some (AV.b ((decide (p.length ≤ 200) && (cleanV p && (tsB t && (decide (a ≥ 0) && (decide (a ≤ 36500) && (decide (b ≥ 0) && decide (b ≤ 36500))))))) && r.all rGood), [])
    rw [h1, h2, show decide ((p.length : Int) > 200) = !decide (p.length ≤ 200) from i64_gt _ 200, lt_ge a 0,
      gt_le a 36500, lt_ge b 0,
      gt_le b 36500]
    cases decide (p.length ≤ 200) with
    | false => rfl
    | true =>
      cases cleanV p with
      | false => rfl
      | true =>
        cases tsB t with
        | false => rfl
        | true => cases decide (a ≥ 0) <;> cases decide (a ≤ 36500) <;> cases decide (b ≥ 0) <;> cases decide (b ≤ 36500) <;> first | rfl | exact hn
theorem k16 (l : List D) (h : rsC l = true) : RetX (Γ mx) 16 [.sl 35 .any l] [] (.b (rsB l)) [] := by
  obtain ⟨h1, h2⟩ := rsC_eq h
  obtain ⟨n, hn⟩ := kg16 (mx := mx) l h1 h2 l [] 0 rfl rfl
  refine ret_goes (Γ := Γ mx) hP hZ kh16_ok (by kernel_rfl) ⟨n, ?_⟩
  rw [q16, rsB, show decide ((l.length : Int) > 8) = !decide (l.length ≤ 8) from i64_gt _ 8]
  cases decide (l.length ≤ 8) with
  | false => rfl
  | true => exact hn
theorem kg76 (l : List D) (s : List UInt8) (hl : l.length ≤ 8388608) (ha : l.all isT = true) : ∀ (rest pre : List D) (i : Int), l = pre ++ rest → i = (pre.length : Int) →
    Goes (Γ mx) (runS []) 76 2 ⟨[(0, .sl 84 .any l), (1, .s s), (6, .i .i64 i)], []⟩ (.tuple [.s (getS rest s), .b (getB rest s)], [])
  | [], pre, i, he, hi => by
    subst hi
    refine Goes.step ⟨0, ?_⟩
    rw [q76_2a, decide_eq_false (show ¬ (pre.length : Int) < (l.length : Int) by rw [he]; simp)]; rfl
  | t :: r, pre, i, he, hi => by
    subst hi
    have hlen : l.length = pre.length + (r.length + 1) := by rw [he]; simp
    obtain ⟨a, b, rfl⟩ := isT_ex (List.all_eq_true.1 ha t (by rw [he]; simp))
    have hid : ∀ {R : Type} (K : D → Option R), idx l (pre.length : Int) K = K (.agg [.str a, .str b]) := fun K => by rw [he]; exact idx_mid pre r _ K
    have hw : IntKind.wrap .i64 ((pre.length : Int) + 1) = (pre.length : Int) + 1 := wrapI (by omega) (by omega)
    obtain ⟨n, hn⟩ := kg76 l s hl ha r (pre ++ [.agg [.str a, .str b]]) ((pre.length : Int) + 1) (by rw [he]; simp) (by simp)
    have e : getO (.agg [.str a, .str b] :: r) s = bif a == s then some (.agg [.str a, .str b]) else getO r s := by
      unfold getO
      rw [List.find?_cons, show eqN s (.agg [.str a, .str b]) = (a == s) from rfl]
      cases (a == s) <;> rfl
    have e1 : getS (.agg [.str a, .str b] :: r) s = bif a == s then b else getS r s := by
      unfold getS; rw [e]; cases (a == s) <;> rfl
    have e2 : getB (.agg [.str a, .str b] :: r) s = bif a == s then true else getB r s := by
      unfold getB; rw [e]; cases (a == s) <;> rfl
    refine Goes.step ⟨n, ?_⟩
    rw [q76_2a, decide_eq_true (show (pre.length : Int) < (l.length : Int) by omega), cond_true, hid, e1, e2, hw]
    show (bif a == s then idx l (pre.length : Int) (fun y8 => _) else _) = _
    rw [hid]
    cases (a == s) with
    | true => rfl
    | false => exact hn
theorem k76 (l : List D) (s : List UInt8) (h : tC l = true) : RetX (Γ mx) 76 [.sl 84 .any l, .s s] [] (.tuple [.s (getS l s), .b (getB l s)]) [] := by
  obtain ⟨h1, h2⟩ := tC_eq h
  obtain ⟨n, hn⟩ := kg76 (mx := mx) l s h1 (sh_all h2) l [] 0 rfl rfl
  exact ret_goes (Γ := Γ mx) hP hZ none_ok (by kernel_rfl) ⟨n, by rw [q76]; exact hn⟩
theorem kh49_ok : CallsOK (Γ mx) Q49 := specs_ok (.cons (spLS_ok k76) .nil)
theorem kg49 (l m : List D) (hl : l.length ≤ 8388608) (ha : l.all isT = true) (hm : tC m = true) : ∀ (rest pre : List D) (i : Int), l = pre ++ rest → i = (pre.length : Int) →
    Goes (Γ mx) Q49 49 2 ⟨[(0, .sl 84 .any l), (1, .sl 84 .any m), (5, .i .i64 i)], []⟩ (.b (withinB rest m), [])
  | [], pre, i, he, hi => by
    subst hi
    refine Goes.step ⟨0, ?_⟩
    rw [q49_2a, decide_eq_false (show ¬ (pre.length : Int) < (l.length : Int) by rw [he]; simp)]; rfl
  | t :: r, pre, i, he, hi => by
    subst hi
    have hlen : l.length = pre.length + (r.length + 1) := by rw [he]; simp
    obtain ⟨a, b, rfl⟩ := isT_ex (List.all_eq_true.1 ha t (by rw [he]; simp))
    have hid : ∀ {R : Type} (K : D → Option R), idx l (pre.length : Int) K = K (.agg [.str a, .str b]) := fun K => by rw [he]; exact idx_mid pre r _ K
    have hw : IntKind.wrap .i64 ((pre.length : Int) + 1) = (pre.length : Int) + 1 := wrapI (by omega) (by omega)
    obtain ⟨n, hn⟩ := kg49 l m hl ha hm r (pre ++ [.agg [.str a, .str b]]) ((pre.length : Int) + 1) (by rw [he]; simp) (by simp)
    have e : withinB (.agg [.str a, .str b] :: r) m = ((getB m a && (getS m a == b)) && withinB r m) := rfl
    refine Goes.step ⟨n, ?_⟩
    rw [q49_2a, decide_eq_true (show (pre.length : Int) < (l.length : Int) by omega), cond_true, hid, e, hw]
    show (bif tC m then (bif !getB m a then _ else idx l (pre.length : Int) (fun y8 => _)) else _) = _
    rw [hm, hid, cond_true]
    cases getB m a with
    | false => rfl
    | true =>
      show (bif !(getS m a == b) then _ else _) = _
      cases (getS m a == b) with
      | false => rfl
      | true => exact hn
theorem k49 (a b : List D) (h : (tC a && tC b) = true) : RetX (Γ mx) 49 [.sl 84 .any a, .sl 84 .any b] [] (.b (withinB a b)) [] := by
  simp only [Bool.and_eq_true] at h
  obtain ⟨h1, h2⟩ := tC_eq h.1
  obtain ⟨n, hn⟩ := kg49 (mx := mx) a b h1 (sh_all h2) h.2 a [] 0 rfl rfl
  exact ret_goes (Γ := Γ mx) hP hZ kh49_ok (by kernel_rfl) ⟨n, by rw [q49]; exact hn⟩
theorem k36 (a b : List UInt8) (_ : true = true) : RetX (Γ mx) 36 [.s a, .s b] [] (.b (hpB a b)) [] := by
  refine ret_goes (Γ := Γ mx) hP hZ none_ok (by kernel_rfl) ⟨0, ?_⟩
  rw [q36, hpB, show decide ((a.length : Int) ≥ (b.length : Int)) = decide (b.length ≤ a.length) from decide_eq_decide.2 (by omega), decide_eq_true (show (0 : Int) ≤ (b.length : Int) by omega)]
  cases decide (b.length ≤ a.length) <;> rfl
theorem kh19_ok : CallsOK (Γ mx) Q19 := specs_ok (.cons (spD1_ok k17) (.cons (sp2_ok k36) (.cons (spLL_ok k49) .nil)))
theorem k19 (r o : D) (h : (rC r && oC o) = true) : RetX (Γ mx) 19 [.d 35 r, .d 24 o] [] (.b (meantD r o)) [] := by
  simp only [Bool.and_eq_true] at h
  obtain ⟨p, c, t, a, b, m, rfl, _, ht⟩ := rC_ex h.1
  have ho := h.2
  obtain ⟨k, c', l, rfl, h1, h2⟩ := oC_ex h.2
  obtain ⟨hl, ha⟩ := vsC_eq h2
  refine ret_goes (Γ := Γ mx) hP hZ kh19_ok (by kernel_rfl) ⟨0, ?_⟩
  rw [q19, ho, cond_true, meantD, latE]
  cases hs : oSnd (.agg [.str k, .slice c' l]) with
  | false => rfl
  | true =>
    obtain ⟨q, v, rfl, hvt⟩ := last_ex (snd_pos hs) ha
    have hw : IntKind.wrap .i64 (((q ++ [vD v]).length : Int) - 1) = (q.length : Int) := by rw [wrapI (by omega) (by simp at hl ⊢; omega)]; simp
    have hid : ∀ {R : Type} (K : D → Option R), idx (q ++ [vD v]) (q.length : Int) K = K (vD v) := fun K => idx_mid q [] _ K
    have hv : vTg (latD (.agg [.str k, .slice c' (q ++ [vD v])])) = v.tg := by
      unfold latD
      rw [hs, cond_true, show (oVs (.agg [.str k, .slice c' (q ++ [vD v])])) = q ++ [vD v] from rfl, getD_last]; rfl
    rw [hw, hid, hv]
    show (bif hpB k p then (bif tC t && tC v.tg then _ else _) else _) = some (AV.b (hpB k p && withinB t v.tg), [])
    rw [ht, hvt]
    cases hpB k p <;> rfl
end Go.Proofs.YtjbemleloffafaaGreatDoor.V

/- RulesSoon: contracts of erased, Due, Soon. -/
namespace Go.Proofs.YtjbemleloffafaaGreatDoor.V
open Go
set_option maxRecDepth 100000
set_option linter.unusedVariables false
set_option linter.unusedSimpArgs false
section
variable {Γ : Ctx} {g : FuncId}
theorem spEr_ok (h : ∀ l o n t, erC l o n = true → RetX Γ g [.sl 35 .any l, .d 24 o, .i .i64 n, .i .i64 t] [] (.b (erD l o n t)) []) : SpecOK Γ ⟨g, dat spEr⟩ := dat_ok fun args r hr => by
  unfold spEr at hr
  split at hr
  · simp only [Option.some.injEq, Prod.mk.injEq, Bool.and_eq_true] at hr
    obtain ⟨⟨h1, h2, h3⟩, rfl⟩ := hr
    obtain rfl := beq_id h1
    obtain rfl := beq_id h2
    exact (h _ _ _ _ h3).anyc
  · exact absurd hr (by simp)
end
variable {mx : Int}
theorem kh18_ok : CallsOK (Γ mx) Q18 := specs_ok (.cons (spDt_ok k48) (.cons (spDD_ok k19) .nil))
theorem kg18 (rl : List D) (k : List UInt8) (ck : Cp) (ol : List D) (v : Ver) (n : Nat) (t : Int) (hl : rl.length ≤ 8388608) (hol : ol.length ≤ 8388608) (hn : n < ol.length) (hoa : ol.all vC = true) (ha : rl.all rC = true) (ho : oC (.agg [.str k, .slice ck ol]) = true) : ∀ (rest pre : List D) (i : Int), rl = pre ++ rest → i = (pre.length : Int) →
    Goes (Γ mx) Q18 18 5 ⟨[(0, .sl 35 .any rl), (2, .i .i64 (n : Int)), (3, .i .i64 t), (5, .ptr 0 [] 24), (9, .ptr 1 [] 54), (10, .i .i64 i)], [some (.box 24 (.d 24 (.agg [.str k, .slice ck ol]))), some (.box 54 (.d 54 (vD v)))]⟩ (.b (rest.any (erR (.agg [.str k, .slice ck ol]) n v t)), [])
  | [], pre, i, he, hi => by
    subst hi
    refine Goes.step ⟨0, (q18_5a ..).trans ?_⟩
    rw [decide_eq_false (show ¬ (pre.length : Int) < (rl.length : Int) by rw [he]; simp)]
    rfl
  | x :: r, pre, i, he, hi => by
    subst hi
    have hlen : rl.length = pre.length + (r.length + 1) := by rw [he]; simp
    have hs : rC x = true := List.all_eq_true.1 ha _ (by rw [he]; simp)
    obtain ⟨m, hm⟩ := kg18 rl k ck ol v n t hl hol hn hoa ha ho r (pre ++ [x]) ((pre.length : Int) + 1) (by rw [he]; simp) (by simp)
    obtain ⟨p, c, tt, a, b, mk, rfl, _, _⟩ := rC_ex hs
    have hid : ∀ {R : Type} (K : D → Option R), idx rl (pre.length : Int) K = K (.agg [.str p, .slice c tt, .int .i64 a, .int .i64 b, .bool mk]) := fun K => by rw [he]; exact idx_mid pre r _ K
    have hw : IntKind.wrap .i64 ((pre.length : Int) + 1) = (pre.length : Int) + 1 := wrapI (by omega) (by omega)
    have hw1 : IntKind.wrap .i64 ((ol.length : Int) - 1) = (ol.length : Int) - 1 := wrapI (by omega) (by omega)
    have hb : (rC (.agg [.str p, .slice c tt, .int .i64 a, .int .i64 b, .bool mk]) && oC (.agg [.str k, .slice ck ol])) = true := by rw [hs, ho]; rfl
    obtain ⟨vid, vmr, vsz, vbl, vdg, vcr, vmd, vun, vho, vc, vtg⟩ := v
    have hE : erR (.agg [.str k, .slice ck ol]) n ⟨vid, vmr, vsz, vbl, vdg, vcr, vmd, vun, vho, vc, vtg⟩ t (.agg [.str p, .slice c tt, .int .i64 a, .int .i64 b, .bool mk]) = (meantD (.agg [.str p, .slice c tt, .int .i64 a, .int .i64 b, .bool mk]) (.agg [.str k, .slice ck ol]) &&
        ((decide ((n : Int) < (ol.length : Int) - 1) && (decide (b > 0) && decide (t ≥ addD (vCr (ol.getD (n + 1) v0)) b))) || ((ol.length : Int) == 1 && (vmr && (mk && decide (t ≥ (-62135596800))))))) := rfl
    refine Goes.step ⟨m, (q18_5a ..).trans ?_⟩
    rw [decide_eq_true (show (pre.length : Int) < (rl.length : Int) by omega), cond_true, hid, hw, hw1, List.any_cons, hE]
    show (bif rC (.agg [.str p, .slice c tt, .int .i64 a, .int .i64 b, .bool mk]) && oC (.agg [.str k, .slice ck ol]) then (bif !meantD (.agg [.str p, .slice c tt, .int .i64 a, .int .i64 b, .bool mk]) (.agg [.str k, .slice ck ol]) then _ else (bif decide ((n : Int) < (ol.length : Int) - 1) then idx rl (pre.length : Int) (fun y37 => _) else _)) else _) = _
    rw [hb, cond_true]
    cases meantD (.agg [.str p, .slice c tt, .int .i64 a, .int .i64 b, .bool mk]) (.agg [.str k, .slice ck ol]) with
    | false => exact hm
    | true =>
      rw [hid]
      by_cases hlt : (n : Int) < (ol.length : Int) - 1
      · have h1 : ((ol.length : Int) == 1) = false := beq_eq_false_iff_ne.2 (by omega)
        obtain ⟨q, w, rr, e, hq⟩ := mid_ex hoa (n := n + 1) (by omega)
        have hwn : IntKind.wrap .i64 ((n : Int) + 1) = (q.length : Int) := by rw [wrapI (by omega) (by omega)]; omega
        have hid2 : ∀ {R : Type} (K : D → Option R), idx ol (q.length : Int) K = K (vD w) := fun K => by rw [e]; exact idx_mid q rr _ K
        have hg : ol.getD (n + 1) v0 = vD w := by rw [← hq, e]; exact getD_mid q rr _ _
        rw [decide_eq_true hlt, h1, hg]
        show (bif decide (b > 0) then idx ol (IntKind.wrap .i64 ((n : Int) + 1)) (fun y41 => _) else _) = _
        by_cases hb0 : b > 0
        · rw [decide_eq_true hb0, hwn, hid2]
          show idx rl (pre.length : Int) (fun y45 => _) = _
          rw [hid]
          show (bif decide (t ≥ addD w.cr b) then _ else _) = some (AV.b ((true && (true && (true && decide (t ≥ addD w.cr b)) || false && _)) || _), [])
          cases decide (t ≥ addD w.cr b) with
          | true => rfl
          | false => exact hm
        · rw [decide_eq_false hb0]; exact hm
      · rw [decide_eq_false hlt]
        show (bif (ol.length : Int) == 1 then (bif vmr then idx rl (pre.length : Int) (fun y49 => _) else _) else _) = _
        rw [hid]
        cases (ol.length : Int) == 1 with
        | false => exact hm
        | true =>
          cases vmr with
          | false => exact hm
          | true =>
            cases mk with
            | false => exact hm
            | true =>
              show (bif decide (t ≥ (-62135596800)) then _ else _) = _
              cases decide (t ≥ (-62135596800)) with
              | true => rfl
              | false => exact hm
theorem k18 (l : List D) (o : D) (n t : Int) (h : erC l o n = true) : RetX (Γ mx) 18 [.sl 35 .any l, .d 24 o, .i .i64 n, .i .i64 t] [] (.b (erD l o n t)) [] := by
  unfold erC at h
  simp only [Bool.and_eq_true, decide_eq_true_eq] at h
  obtain ⟨hr, ho, h0, hn⟩ := h
  obtain ⟨k, c, ol, rfl, h1, h2⟩ := oC_ex ho
  obtain ⟨hol, hoa⟩ := vsC_eq h2
  obtain ⟨hrl, hra⟩ := rsC_eq hr
  have hn : n < (ol.length : Int) := hn
  obtain ⟨q, v, r, e, hq⟩ := mid_ex hoa (n := n.toNat) (by omega)
  have hqn : n = (q.length : Int) := by omega
  subst hqn
  have hid : ∀ {R : Type} (K : D → Option R), idx ol (q.length : Int) K = K (vD v) := fun K => by rw [e]; exact idx_mid q r _ K
  have hD : erD l (.agg [.str k, .slice c ol]) (q.length : Int) t = (!heldD (lkV v) t && l.any (erR (.agg [.str k, .slice c ol]) q.length v t)) := by
    unfold erD
    rw [show oVs (.agg [.str k, .slice c ol]) = ol from rfl, Int.toNat_natCast, show ol.getD q.length v0 = vD v by rw [e]; exact getD_mid q r _ _, vOf_vD]
    rfl
  obtain ⟨m, hm⟩ := kg18 (mx := mx) l k c ol v q.length t hrl hol (by omega) hoa hra ho l [] 0 rfl rfl
  refine ret_goes (Γ := Γ mx) hP hZ kh18_ok (by kernel_rfl) ⟨m, ?_⟩
  rw [q18, hid, hD]
  show (bif heldD (lkV v) t then _ else _) = _
  cases heldD (lkV v) t with
  | true => rfl
  | false => exact hm
theorem kh7_ok : CallsOK (Γ mx) Q7 := specs_ok (.cons (spL1_ok k16) (.cons (spD1_ok k17) (.cons (spEr_ok k18) (.cons (spDD_ok k19) .nil))))
theorem kg7b (rl : List D) (k : List UInt8) (ck : Cp) (ol : List D) (nv : Ver) (t : Int) (hnv : newV (.agg [.str k, .slice ck ol]) = nv) (hl : rl.length ≤ 8388608) (ha : rl.all rC = true) (ho : oC (.agg [.str k, .slice ck ol]) = true) : ∀ (rest pre : List D) (i : Int), rl = pre ++ rest → i = (pre.length : Int) →
    Goes (Γ mx) Q7 7 10 ⟨[(0, .sl 35 .any rl), (2, .i .i64 t), (4, .ptr 0 [] 24), (10, .ptr 1 [] 54), (11, .i .i64 i)], [some (.box 24 (.d 24 (.agg [.str k, .slice ck ol]))), some (.box 54 (.d 54 (vD nv)))]⟩ (.tuple [.i .u64 0, .b (rest.any (dayR (.agg [.str k, .slice ck ol]) t)), .i .i64 0], [])
  | [], pre, i, he, hi => by
    subst hi
    refine Goes.step ⟨0, (q7_10a ..).trans ?_⟩
    rw [decide_eq_false (show ¬ (pre.length : Int) < (rl.length : Int) by rw [he]; simp)]
    rfl
  | x :: r, pre, i, he, hi => by
    subst hi
    have hlen : rl.length = pre.length + (r.length + 1) := by rw [he]; simp
    have hs : rC x = true := List.all_eq_true.1 ha _ (by rw [he]; simp)
    obtain ⟨m, hm⟩ := kg7b rl k ck ol nv t hnv hl ha ho r (pre ++ [x]) ((pre.length : Int) + 1) (by rw [he]; simp) (by simp)
    obtain ⟨p, c, tt, a, b, mk, rfl, _, _⟩ := rC_ex hs
    have hid : ∀ {R : Type} (K : D → Option R), idx rl (pre.length : Int) K = K (.agg [.str p, .slice c tt, .int .i64 a, .int .i64 b, .bool mk]) := fun K => by rw [he]; exact idx_mid pre r _ K
    have hw : IntKind.wrap .i64 ((pre.length : Int) + 1) = (pre.length : Int) + 1 := wrapI (by omega) (by omega)
    have hb : (rC (.agg [.str p, .slice c tt, .int .i64 a, .int .i64 b, .bool mk]) && oC (.agg [.str k, .slice ck ol])) = true := by rw [hs, ho]; rfl
    have hE : dayR (.agg [.str k, .slice ck ol]) t (.agg [.str p, .slice c tt, .int .i64 a, .int .i64 b, .bool mk]) = (meantD (.agg [.str p, .slice c tt, .int .i64 a, .int .i64 b, .bool mk]) (.agg [.str k, .slice ck ol]) && (decide (a > 0) && (!nv.mr && decide (t ≥ addD nv.cr a)))) := by rw [← hnv]; rfl
    clear hnv
    obtain ⟨vid, vmr, vsz, vbl, vdg, vcr, vmd, vun, vho, vc, vtg⟩ := nv
    refine Goes.step ⟨m, (q7_10a ..).trans ?_⟩
    rw [decide_eq_true (show (pre.length : Int) < (rl.length : Int) by omega), cond_true, hid, hw, List.any_cons, hE]
    show (bif rC (.agg [.str p, .slice c tt, .int .i64 a, .int .i64 b, .bool mk]) && oC (.agg [.str k, .slice ck ol]) then (bif meantD (.agg [.str p, .slice c tt, .int .i64 a, .int .i64 b, .bool mk]) (.agg [.str k, .slice ck ol]) then idx rl (pre.length : Int) (fun y36 => _) else _) else _) = _
    rw [hb, cond_true, hid]
    cases meantD (.agg [.str p, .slice c tt, .int .i64 a, .int .i64 b, .bool mk]) (.agg [.str k, .slice ck ol]) with
    | false => exact hm
    | true =>
      show (bif decide (a > 0) then (bif !vmr then idx rl (pre.length : Int) (fun y40 => _) else _) else _) = _
      rw [hid]
      cases decide (a > 0) with
      | false => exact hm
      | true =>
        cases vmr with
        | true => exact hm
        | false =>
          show (bif decide (t ≥ addD vcr a) then _ else _) = some (AV.tuple [.i .u64 0, .b ((true && (true && (true && decide (t ≥ addD vcr a)))) || _), .i .i64 0], [])
          cases decide (t ≥ addD vcr a) with
          | true => rfl
          | false => exact hm
def rdR (o : Option Ver) (z : Bool) : AV × Objs := match o with | some v => (.tuple [.i .u64 v.id, .b false, .i .i64 0], []) | none => (.tuple [.i .u64 0, .b z, .i .i64 0], [])
theorem kg7a (rl : List D) (k : List UInt8) (ck : Cp) (ol : List D) (t : Int) (hsn : 0 < ol.length) (hr : rsC rl = true) (hol : ol.length ≤ 8388608) (hoa : ol.all vC = true) (ho : oC (.agg [.str k, .slice ck ol]) = true) : ∀ (rest : List Ver) (pre : List D) (i : Int), ol = pre ++ rest.map vD → i = (pre.length : Int) →
    Goes (Γ mx) Q7 7 4 ⟨[(0, .sl 35 .any rl), (2, .i .i64 t), (4, .ptr 0 [] 24), (9, .i .i64 i)], [some (.box 24 (.d 24 (.agg [.str k, .slice ck ol])))]⟩ (rdR (rdN rl (.agg [.str k, .slice ck ol]) t rest pre.length) (rl.any (dayR (.agg [.str k, .slice ck ol]) t)))
  | [], pre, i, he, hi => by
    subst hi
    obtain ⟨hrl, hra⟩ := rsC_eq hr
    obtain ⟨q, nv, e, _⟩ := last_ex hsn hoa
    have hnew : newV (.agg [.str k, .slice ck ol]) = nv := by rw [e]; exact new_eq k ck q nv
    have hw : IntKind.wrap .i64 ((ol.length : Int) - 1) = (q.length : Int) := by
      have := congrArg List.length e
      rw [List.length_append, List.length_singleton] at this
      rw [wrapI (by omega) (by omega)]; omega
    have hid : ∀ {R : Type} (K : D → Option R), idx ol (q.length : Int) K = K (vD nv) := fun K => by rw [e]; exact idx_mid q [] _ K
    obtain ⟨m, hm⟩ := kg7b (mx := mx) rl k ck ol nv t hnew hrl hra ho rl [] 0 rfl rfl
    refine Goes.step ⟨m, (q7_4a ..).trans ?_⟩
    rw [decide_eq_false (show ¬ (pre.length : Int) < (ol.length : Int) by rw [he]; simp), cond_false, hw, hid]
    exact hm
  | v :: r, pre, i, he, hi => by
    subst hi
    have hlen : ol.length = pre.length + (r.length + 1) := by rw [he]; simp
    have hid : ∀ {R : Type} (K : D → Option R), idx ol (pre.length : Int) K = K (vD v) := fun K => by rw [he]; exact idx_mid pre (r.map vD) _ K
    have hw : IntKind.wrap .i64 ((pre.length : Int) + 1) = (pre.length : Int) + 1 := wrapI (by omega) (by omega)
    obtain ⟨m, hm⟩ := kg7a rl k ck ol t hsn hr hol hoa ho r (pre ++ [vD v]) ((pre.length : Int) + 1) (by rw [he]; simp) (by simp)
    have hC : erC rl (.agg [.str k, .slice ck ol]) (pre.length : Int) = true := by
      unfold erC
      rw [hr, ho, decide_eq_true (show (0 : Int) ≤ (pre.length : Int) by omega), show oVs (.agg [.str k, .slice ck ol]) = ol from rfl, decide_eq_true (show (pre.length : Int) < (ol.length : Int) by omega)]; rfl
    have hD : erD rl (.agg [.str k, .slice ck ol]) (pre.length : Int) t = erV rl (.agg [.str k, .slice ck ol]) pre.length t v := by
      unfold erD
      rw [show oVs (.agg [.str k, .slice ck ol]) = ol from rfl, Int.toNat_natCast, show ol.getD pre.length v0 = vD v by rw [he]; exact getD_mid pre (r.map vD) _ _, vOf_vD]
    refine Goes.step ⟨m, (q7_4a ..).trans ?_⟩
    rw [decide_eq_true (show (pre.length : Int) < (ol.length : Int) by omega), cond_true, hC, cond_true, hD, hid, hw, rdN]
    rw [List.length_append, List.length_singleton] at hm
    cases erV rl (.agg [.str k, .slice ck ol]) pre.length t v with
    | true => rfl
    | false => exact hm
theorem k7 (l : List D) (o : D) (t : Int) (h : (rsC l && oC o) = true) : RetX (Γ mx) 7 [.sl 35 .any l, .d 24 o, .i .i64 t] [] (.tuple [.i .u64 (rdI l o t), .b (rdM l o t), .i .i64 (dueE l o)]) [] := by
  simp only [Bool.and_eq_true] at h
  obtain ⟨hr, ho⟩ := h
  obtain ⟨k, c, ol, rfl, h1, h2⟩ := oC_ex ho
  obtain ⟨hol, hoa⟩ := vsC_eq h2
  obtain ⟨vs, e1, e2⟩ := vs_ex hoa
  cases hb : rsB l with
  | false =>
    have hg : goodB l (.agg [.str k, .slice c ol]) = false := by unfold goodB; rw [hb]; rfl
    refine ret_goes (Γ := Γ mx) hP hZ kh7_ok (by kernel_rfl) ⟨0, ?_⟩
    rw [q7, hr, hb, rdI, rdM, dueE, hg]; rfl
  | true =>
    cases hs : oSnd (.agg [.str k, .slice c ol]) with
    | false =>
      have hg : goodB l (.agg [.str k, .slice c ol]) = false := by unfold goodB; rw [hs]; simp
      refine ret_goes (Γ := Γ mx) hP hZ kh7_ok (by kernel_rfl) ⟨0, ?_⟩
      rw [q7, hr, hb, ho, hs, rdI, rdM, dueE, hg]; rfl
    | true =>
      have hg : goodB l (.agg [.str k, .slice c ol]) = true := by unfold goodB; rw [hb, hs]; rfl
      obtain ⟨m, hm⟩ := kg7a (mx := mx) l k c ol t (snd_pos hs) hr hol hoa ho vs [] 0 e1 rfl
      refine ret_goes (Γ := Γ mx) hP hZ kh7_ok (by kernel_rfl) ⟨m, ?_⟩
      rw [q7, hr, hb, ho, hs, rdI, rdM, dueE, hg, show vsOf (oVs (.agg [.str k, .slice c ol])) = vs from e2]
      simp only [cond_true]
      refine Eq.trans ?_ (hm.trans ?_)
      · rfl
      · show some (rdR (rdN l (.agg [.str k, .slice c ol]) t vs 0) _) = _
        cases rdN l (.agg [.str k, .slice c ol]) t vs 0 <;> rfl
/-! ### soon -/
theorem kh6_ok : CallsOK (Γ mx) Q6 := specs_ok (.cons (spLD_ok c61) (.cons (spLD_ok c62) .nil))
def snR (p : Int × Bool) : AV × Objs := (.tuple [.i .i64 p.1, .b p.2, .i .i64 0], [])
theorem kg6 (l : List D) (hl : l.length ≤ 100000000) (ha : ∀ x ∈ l, isEv x) : ∀ (rest pre : List D) (a : Int) (b : Bool) (i : Int), l = pre ++ rest → i = (pre.length : Int) →
    Goes (Γ mx) Q6 6 5 ⟨[(7, .i .i64 a), (8, .b b), (18, .sl 47 .any l), (19, .i .i64 (l.length : Int)), (20, .i .i64 i)], []⟩ (snR (snF rest a b))
  | [], pre, a, b, i, he, hi => by
    subst hi
    refine Goes.step ⟨0, (q6_5a ..).trans ?_⟩
    rw [decide_eq_false (show ¬ (pre.length : Int) < (l.length : Int) by rw [he]; simp)]
    rfl
  | x :: r, pre, a, b, i, he, hi => by
    subst hi
    have hlen : l.length = pre.length + (r.length + 1) := by rw [he]; simp
    obtain ⟨tm, id, md, un, hol, rfl⟩ := ha x (by rw [he]; simp)
    have hid : ∀ {R : Type} (K : D → Option R), idx l (pre.length : Int) K = K (.agg [.int .i64 tm, .int .u64 id, .agg [.int .i64 md, .int .i64 un, .bool hol]]) := fun K => by rw [he]; exact idx_mid pre r _ K
    have hw : IntKind.wrap .i64 ((pre.length : Int) + 1) = (pre.length : Int) + 1 := wrapI (by omega) (by omega)
    have ih := fun a b => kg6 l hl ha r (pre ++ [.agg [.int .i64 tm, .int .u64 id, .agg [.int .i64 md, .int .i64 un, .bool hol]]]) a b ((pre.length : Int) + 1) (by rw [he]; simp) (by simp)
    obtain ⟨n1, hn1⟩ := ih a b
    obtain ⟨n2, hn2⟩ := ih (snV (.agg [.int .i64 tm, .int .u64 id, .agg [.int .i64 md, .int .i64 un, .bool hol]])) true
    have hF : snF (.agg [.int .i64 tm, .int .u64 id, .agg [.int .i64 md, .int .i64 un, .bool hol]] :: r) a b = bif hol then snF r a b else bif decide (tm > 253402300799) then snF r a b else bif !b then snF r (snV (.agg [.int .i64 tm, .int .u64 id, .agg [.int .i64 md, .int .i64 un, .bool hol]])) true else bif decide (snV (.agg [.int .i64 tm, .int .u64 id, .agg [.int .i64 md, .int .i64 un, .bool hol]]) < a) then snF r (snV (.agg [.int .i64 tm, .int .u64 id, .agg [.int .i64 md, .int .i64 un, .bool hol]])) true else snF r a b := rfl
    have hV : snV (.agg [.int .i64 tm, .int .u64 id, .agg [.int .i64 md, .int .i64 un, .bool hol]]) = bif md != 0 then mx2 (atL tm) un else atL tm := rfl
    have skip : ∀ {X : Option (AV × Objs)}, X = L (Γ mx) Q6 6 n1 (todoAt (Γ mx) 6 5) ⟨[(7, .i .i64 a), (8, .b b), (18, .sl 47 .any l), (19, .i .i64 (l.length : Int)), (20, .i .i64 ((pre.length : Int) + 1))], []⟩ → snF (.agg [.int .i64 tm, .int .u64 id, .agg [.int .i64 md, .int .i64 un, .bool hol]] :: r) a b = snF r a b → X = some (snR (snF (.agg [.int .i64 tm, .int .u64 id, .agg [.int .i64 md, .int .i64 un, .bool hol]] :: r) a b)) := fun h1 h2 => by rw [h1, h2]; exact hn1
    cases hol with
    | true =>
      refine Goes.step ⟨n1, (q6_5a ..).trans ?_⟩
      rw [decide_eq_true (show (pre.length : Int) < (l.length : Int) by omega), cond_true, hid, hw]
      exact skip rfl rfl
    | false =>
      by_cases ht : tm > 253402300799
      · refine Goes.step ⟨n1, (q6_5a ..).trans ?_⟩
        rw [decide_eq_true (show (pre.length : Int) < (l.length : Int) by omega), cond_true, hid, hw]
        show (bif decide (tm > 253402300799) then _ else _) = _
        rw [decide_eq_true ht]
        exact skip rfl (by rw [hF, decide_eq_true ht]; rfl)
      · rw [decide_eq_false ht] at hF
        by_cases hc : b = true ∧ ¬ snV (.agg [.int .i64 tm, .int .u64 id, .agg [.int .i64 md, .int .i64 un, .bool false]]) < a
        · obtain ⟨rfl, hc⟩ := hc
          rw [decide_eq_false hc] at hF
          refine Goes.step ⟨n1, (q6_5a ..).trans ?_⟩
          rw [decide_eq_true (show (pre.length : Int) < (l.length : Int) by omega), cond_true, hid, hw]
          show (bif decide (tm > 253402300799) then _ else (bif md != 0 then (bif decide (mx2 (atL tm) un < a) then _ else _) else (bif decide (atL tm < a) then _ else _))) = _
          rw [decide_eq_false ht, cond_false]
          rw [hV] at hc
          cases hm : md != 0 with
          | true =>
            rw [hm, cond_true] at hc
            rw [cond_true, decide_eq_false hc]
            exact skip rfl hF
          | false =>
            rw [hm, cond_false] at hc
            rw [cond_false, decide_eq_false hc]
            exact skip rfl hF
        · have hF2 : snF (.agg [.int .i64 tm, .int .u64 id, .agg [.int .i64 md, .int .i64 un, .bool false]] :: r) a b = snF r (snV (.agg [.int .i64 tm, .int .u64 id, .agg [.int .i64 md, .int .i64 un, .bool false]])) true := by
            rw [hF]
            cases b with
            | false => rfl
            | true =>
              have : snV (.agg [.int .i64 tm, .int .u64 id, .agg [.int .i64 md, .int .i64 un, .bool false]]) < a := by
                rcases Int.lt_or_le (snV (.agg [.int .i64 tm, .int .u64 id, .agg [.int .i64 md, .int .i64 un, .bool false]])) a with h | h
                · exact h
                · exact absurd ⟨rfl, by omega⟩ hc
              rw [decide_eq_true this]; rfl
          rw [hF2]
          rw [hV] at hn2 hc ⊢
          refine Goes.step ⟨n2, (q6_5a ..).trans ?_⟩
          rw [decide_eq_true (show (pre.length : Int) < (l.length : Int) by omega), cond_true, hid, hw]
          show (bif decide (tm > 253402300799) then _ else (bif md != 0 then (bif !b then _ else (bif decide (mx2 (atL tm) un < a) then _ else _)) else (bif !b then _ else (bif decide (atL tm < a) then _ else _)))) = _
          rw [decide_eq_false ht, cond_false]
          cases hm : md != 0 with
          | true =>
            rw [hm, cond_true] at hc hn2
            rw [cond_true]
            cases b with
            | false => exact hn2
            | true =>
              have : mx2 (atL tm) un < a := by
                rcases Int.lt_or_le (mx2 (atL tm) un) a with h | h
                · exact h
                · exact absurd ⟨rfl, by omega⟩ hc
              rw [decide_eq_true this]; exact hn2
          | false =>
            rw [hm, cond_false] at hc hn2
            rw [cond_false]
            cases b with
            | false => exact hn2
            | true =>
              have : atL tm < a := by
                rcases Int.lt_or_le (atL tm) a with h | h
                · exact h
                · exact absurd ⟨rfl, by omega⟩ hc
              rw [decide_eq_true this]; exact hn2
theorem k6 (l : List D) (o : D) (h : (rsC l && oC o) = true) : RetX (Γ mx) 6 [.sl 35 .any l, .d 24 o] [] (.tuple [.i .i64 (snT l o), .b (snB l o), .i .i64 (dueE l o)]) [] := by
  have hc := h
  simp only [Bool.and_eq_true] at h
  obtain ⟨hr, ho⟩ := h
  obtain ⟨k, c, ol, rfl, h1, h2⟩ := oC_ex ho
  obtain ⟨hol, hoa⟩ := vsC_eq h2
  cases hg : goodB l (.agg [.str k, .slice c ol]) with
  | false =>
    refine ret_goes (Γ := Γ mx) hP hZ kh6_ok (by kernel_rfl) ⟨0, ?_⟩
    rw [q6, hc, snT, snB, dueE, hg]; rfl
  | true =>
    have hl8 : l.length ≤ 8 := by
      unfold goodB rsB at hg
      simp only [Bool.and_eq_true, decide_eq_true_eq] at hg
      exact hg.1.1
    obtain ⟨n, hn⟩ := kg6 (mx := mx) (evsL l (.agg [.str k, .slice c ol])) (evs_len l k c ol hl8 hol hoa) (ev_all l _) (evsL l (.agg [.str k, .slice c ol])) [] 0 false 0 rfl rfl
    refine ret_goes (Γ := Γ mx) hP hZ kh6_ok (by kernel_rfl) ⟨n, ?_⟩
    rw [q6, hc, snT, snB, dueE, hg, hr, ho]
    exact hn
end Go.Proofs.YtjbemleloffafaaGreatDoor.V

/- RulesTexts, RulesBack: first pieces: rules held against each other; the document's number. The equations are written by program. -/
namespace Go.Proofs.YtjbemleloffafaaGreatDoor.V
open Go
set_option maxRecDepth 100000
set_option linter.unusedVariables false
set_option linter.unusedSimpArgs false
variable {mx : Int}
def Q13 : Handle := runS [⟨40, dat (spLL 84 84 (fun a b => tC a && tC b) fun a b => .b (sameT a b))⟩]
theorem q13 (lab : Lab) (a : List D) (b : List D) : evF (Γ mx) Q13 lab 13 [.sl 35 .any a, .sl 35 .any b] [] =
  bif ((a.length : Int)) != ((b.length : Int)) then (some (.b false, [])) else (lab (todoAt (Γ mx) 13 4) ⟨[(0, .sl 35 .any a), (1, .sl 35 .any b), (5, .i .i64 0)], []⟩) := by kernel_rfl
theorem q13_4a (lab : Lab) (l1 : List D) (l2 : List D) (n3 : Int) : evL (Γ mx) Q13 lab 13 4 ⟨[(0, .sl 35 .any l1), (1, .sl 35 .any l2), (5, .i .i64 n3)], []⟩ =
  bif decide (n3 < ((l1.length : Int))) then (idx l1 n3 fun y4 => dAgg y4 fun y5 => lGet y5 0 fun y6 => dStr y6 fun s7 => idx l2 n3 fun y8 => dAgg y8 fun y9 => lGet y9 0 fun y10 => dStr y10 fun s11 => bif !(s7 == s11) then (some (.b false, [])) else (idx l1 n3 fun y12 => dAgg y12 fun y13 => lGet y13 1 fun y14 => dSlice y14 fun c15 l16 => idx l2 n3 fun y17 => dAgg y17 fun y18 => lGet y18 1 fun y19 => dSlice y19 fun c20 l21 => bif tC l16 && tC l21 then (bif !(sameT l16 l21) then (some (.b false, [])) else (idx l1 n3 fun y22 => dAgg y22 fun y23 => lGet y23 2 fun y24 => dInt .i64 y24 fun n25 => idx l2 n3 fun y26 => dAgg y26 fun y27 => lGet y27 2 fun y28 => dInt .i64 y28 fun n29 => bif n25 != n29 then (some (.b false, [])) else (idx l1 n3 fun y30 => dAgg y30 fun y31 => lGet y31 3 fun y32 => dInt .i64 y32 fun n33 => idx l2 n3 fun y34 => dAgg y34 fun y35 => lGet y35 3 fun y36 => dInt .i64 y36 fun n37 => bif n33 != n37 then (some (.b false, [])) else (idx l1 n3 fun y38 => dAgg y38 fun y39 => lGet y39 4 fun y40 => dBool y40 fun b41 => idx l2 n3 fun y42 => dAgg y42 fun y43 => lGet y43 4 fun y44 => dBool y44 fun b45 => bif !(b41 == b45) then (some (.b false, [])) else (lab (todoAt (Γ mx) 13 4) ⟨[(0, .sl 35 .any l1), (1, .sl 35 .any l2), (5, .i .i64 (IntKind.wrap .i64 (n3 + 1)))], []⟩))))) else none)) else (some (.b true, [])) := by kernel_rfl
theorem q38 (call : Handle) (lab : Lab) (s : List UInt8) : evF (Γ mx) call lab 38 [.s s] [] =
  bif decide (((List.length s : Int)) < 1) then (some (.i .i64 (-1), [])) else (bif decide (((List.length s : Int)) > 5) then (some (.i .i64 (-1), [])) else (bif decide (((List.length s : Int)) > 1) then (idx s 0 fun c1 => bif ((c1.toNat : Int)) == 48 then (some (.i .i64 (-1), [])) else (lab (todoAt (Γ mx) 38 5) ⟨[(0, .s s), (3, .i .i64 0), (4, .i .i64 0)], []⟩)) else (lab (todoAt (Γ mx) 38 5) ⟨[(0, .s s), (3, .i .i64 0), (4, .i .i64 0)], []⟩))) := by kernel_rfl
theorem q38_5a (call : Handle) (lab : Lab) (s1 : List UInt8) (n2 : Int) (n3 : Int) : evL (Γ mx) call lab 38 5 ⟨[(0, .s s1), (3, .i .i64 n2), (4, .i .i64 n3)], []⟩ =
  bif decide (n3 < ((List.length s1 : Int))) then (idx s1 n3 fun c4 => bif decide (((c4.toNat : Int)) < 48) then (some (.i .i64 (-1), [])) else (idx s1 n3 fun c5 => bif decide (((c5.toNat : Int)) > 57) then (some (.i .i64 (-1), [])) else (idx s1 n3 fun c6 => lab (todoAt (Γ mx) 38 5) ⟨[(0, .s s1), (3, .i .i64 (IntKind.wrap .i64 ((IntKind.wrap .i64 (n2 * 10)) + (IntKind.wrap .i64 (IntKind.wrap .u8 (((c6.toNat : Int)) - 48)))))), (4, .i .i64 (IntKind.wrap .i64 (n3 + 1)))], []⟩))) else (some (.i .i64 n2, [])) := by kernel_rfl

/-- a number of 1 to 5 digits, as the document reads it -/
def nmN : List UInt8 → Int → Int
  | [], n => n
  | c :: r, n => bif decide (c.toNat < 48) then -1 else bif decide (c.toNat > 57) then -1 else nmN r (n * 10 + ((c.toNat : Int) - 48))
def nmR (s : List UInt8) : Int := bif decide (s.length < 1) then -1 else bif decide (s.length > 5) then -1 else bif decide (s.length > 1) && (match s with | c :: _ => decide (c = 48) | [] => false) then -1 else nmN s 0
theorem kg38 (s : List UInt8) (hs : s.length ≤ 5) : ∀ (rest pre : List UInt8) (n i : Int), s = pre ++ rest → i = (pre.length : Int) → 0 ≤ n → n < 10 ^ pre.length →
    Goes (Γ mx) (runS []) 38 5 ⟨[(0, .s s), (3, .i .i64 n), (4, .i .i64 i)], []⟩ (.i .i64 (nmN rest n), [])
  | [], pre, n, i, he, hi, _, _ => by
    subst hi
    refine Goes.step ⟨0, ?_⟩
    rw [q38_5a, decide_eq_false (show ¬ (pre.length : Int) < (s.length : Int) by rw [he]; simp)]; rfl
  | c :: r, pre, n, i, he, hi, h0, h1 => by
    subst hi
    have hlen : s.length = pre.length + (r.length + 1) := by rw [he]; simp
    have hid : ∀ {R : Type} (K : UInt8 → Option R), idx s (pre.length : Int) K = K c := fun K => by rw [he]; exact idx_mid pre r _ K
    have hw : IntKind.wrap .i64 ((pre.length : Int) + 1) = (pre.length : Int) + 1 := wrapI (by omega) (by omega)
    have hp : (10 : Int) ^ pre.length ≤ 10000 := by
      have : pre.length ≤ 4 := by omega
      have h4 : pre.length = 0 ∨ pre.length = 1 ∨ pre.length = 2 ∨ pre.length = 3 ∨ pre.length = 4 := by omega
      rcases h4 with h | h | h | h | h <;> rw [h] <;> decide
    have hl : decide ((c.toNat : Int) < 48) = decide (c.toNat < 48) := decide_eq_decide.2 (by omega)
    have hg : decide ((c.toNat : Int) > 57) = decide (c.toNat > 57) := decide_eq_decide.2 (by omega)
    by_cases hc : c.toNat < 48
    · refine Goes.step ⟨0, ?_⟩
      rw [q38_5a, decide_eq_true (show (pre.length : Int) < (s.length : Int) by omega), cond_true, hid, hl, nmN, decide_eq_true hc]; rfl
    · by_cases hc2 : c.toNat > 57
      · refine Goes.step ⟨0, ?_⟩
        rw [q38_5a, decide_eq_true (show (pre.length : Int) < (s.length : Int) by omega), cond_true, hid, hl, nmN, decide_eq_false hc, cond_false, hid, hg, decide_eq_true hc2]; rfl
      · have e8 : IntKind.wrap .u8 ((c.toNat : Int) - 48) = (c.toNat : Int) - 48 := by rw [IntKind.wrap_u8]; omega
        have e1 : IntKind.wrap .i64 ((c.toNat : Int) - 48) = (c.toNat : Int) - 48 := wrapI (by omega) (by omega)
        have e2 : IntKind.wrap .i64 (n * 10) = n * 10 := wrapI (by omega) (by omega)
        have e3 : IntKind.wrap .i64 (n * 10 + ((c.toNat : Int) - 48)) = n * 10 + ((c.toNat : Int) - 48) := wrapI (by omega) (by omega)
        obtain ⟨m, hm⟩ := kg38 s hs r (pre ++ [c]) (n * 10 + ((c.toNat : Int) - 48)) ((pre.length : Int) + 1) (by rw [he]; simp) (by simp) (by omega) (by rw [List.length_append, List.length_singleton, Int.pow_succ]; omega)
        refine Goes.step ⟨m, ?_⟩
        rw [q38_5a, decide_eq_true (show (pre.length : Int) < (s.length : Int) by omega), cond_true, hid, hl, nmN, decide_eq_false hc, cond_false, hid, hg, decide_eq_false hc2, cond_false, hid, e8, e1, e2, e3, hw]
        exact hm
theorem is48 (c : UInt8) : ((c.toNat : Int) == 48) = decide (c = 48) := by
  by_cases h : c = 48
  · subst h; rfl
  · rw [decide_eq_false h]
    refine beq_eq_false_iff_ne.2 fun e => h ?_
    have : c.toNat = (48 : UInt8).toNat := by have : (48 : UInt8).toNat = 48 := rfl; omega
    exact UInt8.toNat_inj.1 this
theorem k38 (s : List UInt8) : RetX (Γ mx) 38 [.s s] [] (.i .i64 (nmR s)) [] := by
  by_cases h5 : s.length ≤ 5
  · obtain ⟨m, hm⟩ := kg38 (mx := mx) s h5 s [] 0 0 rfl rfl (by omega) (by decide)
    refine ret_goes (Γ := Γ mx) hP hZ none_ok (by kernel_rfl) ⟨m, ?_⟩
    rw [q38, nmR.eq_def, show decide ((s.length : Int) < 1) = decide (s.length < 1) from decide_eq_decide.2 (by omega), show decide ((s.length : Int) > 5) = decide (s.length > 5) from decide_eq_decide.2 (by omega), show decide ((s.length : Int) > 1) = decide (s.length > 1) from decide_eq_decide.2 (by omega), decide_eq_false (show ¬ s.length > 5 by omega)]
    cases s with
    | nil => rfl
    | cons c r =>
      rw [i0, is48 c, decide_eq_false (show ¬ (c :: r).length < 1 by simp)]
      cases decide ((c :: r).length > 1) with
      | false => exact hm
      | true =>
        show (bif decide (c = 48) then _ else _) = some (AV.i .i64 (bif decide (c = 48) then -1 else nmN (c :: r) 0), [])
        cases decide (c = 48) with
        | true => rfl
        | false => exact hm
  · refine ret_goes (Γ := Γ mx) hP hZ none_ok (by kernel_rfl) ⟨0, ?_⟩
    rw [q38, nmR.eq_def, decide_eq_false (show ¬ (s.length : Int) < 1 by omega), decide_eq_true (show (s.length : Int) > 5 by omega), decide_eq_false (show ¬ s.length < 1 by omega), decide_eq_true (show s.length > 5 by omega)]; rfl
/-- a rule held against another -/
def sameR (x y : D) : Bool := (rPre x == rPre y) && (sameT (rTg x) (rTg y) && ((rDays x == rDays y) && ((rOld x == rOld y) && (rMk x == rMk y))))
theorem kh13_ok : CallsOK (Γ mx) Q13 := specs_ok (.cons (spLL_ok c25) .nil)
theorem k13 (x y : D) (hx : rC x = true) (hy : rC y = true) : RetX (Γ mx) 13 [.sl 35 .any [x], .sl 35 .any [y]] [] (.b (sameR x y)) [] := by
  obtain ⟨p, c, t, a, b, m, rfl, _, h1⟩ := rC_ex hx
  obtain ⟨p', c', t', a', b', m', rfl, _, h2⟩ := rC_ex hy
  have last : Goes (Γ mx) Q13 13 4 ⟨[(0, .sl 35 .any [.agg [.str p, .slice c t, .int .i64 a, .int .i64 b, .bool m]]), (1, .sl 35 .any [.agg [.str p', .slice c' t', .int .i64 a', .int .i64 b', .bool m']]), (5, .i .i64 1)], []⟩ (.b true, []) :=
    Goes.step ⟨0, by rw [q13_4a]; rfl⟩
  obtain ⟨n, hn⟩ := last
  have first : Goes (Γ mx) Q13 13 4 ⟨[(0, .sl 35 .any [.agg [.str p, .slice c t, .int .i64 a, .int .i64 b, .bool m]]), (1, .sl 35 .any [.agg [.str p', .slice c' t', .int .i64 a', .int .i64 b', .bool m']]), (5, .i .i64 0)], []⟩ (.b (sameR (.agg [.str p, .slice c t, .int .i64 a, .int .i64 b, .bool m]) (.agg [.str p', .slice c' t', .int .i64 a', .int .i64 b', .bool m'])), []) := by
    refine Goes.step ⟨n, ?_⟩
    rw [q13_4a]
    show (bif !(p == p') then some (AV.b false, []) else (bif tC t && tC t' then (bif !(sameT t t') then some (AV.b false, []) else (bif a != a' then some (AV.b false, []) else (bif b != b' then some (AV.b false, []) else (bif !(m == m') then some (AV.b false, []) else _)))) else none)) = some (AV.b ((p == p') && (sameT t t' && ((a == a') && ((b == b') && (m == m'))))), [])
    rw [h1, h2, bne, bne]
    cases p == p' with
    | false => rfl
    | true =>
      cases sameT t t' with
      | false => rfl
      | true => cases a == a' <;> cases b == b' <;> cases m == m' <;> first | rfl | exact hn
  obtain ⟨n2, hn2⟩ := first
  exact ret_goes (Γ := Γ mx) hP hZ kh13_ok (by kernel_rfl) ⟨n2, by rw [q13]; exact hn2⟩
/-! ### a prefix cut -/
def cpS (s p : List UInt8) : List UInt8 := bif hpB s p then s.drop p.length else s
def Q64 : Handle := runS [⟨79, dat (sp2 (fun _ _ => true) fun a b => .b (hpB a b))⟩]
theorem q64 (lab : Lab) (s : List UInt8) (p : List UInt8) : evF (Γ mx) Q64 lab 64 [.s s, .s p] [] =
  bif !(hpB s p) then (some (.tuple [.s s, .b false], [])) else (bif decide ((0:Int) ≤ ((List.length p : Int))) && decide (((List.length p : Int)) ≤ (List.length s : Int)) then (some (.tuple [.s (List.take ((List.length s) - (Int.toNat ((List.length p : Int)))) (List.drop (Int.toNat ((List.length p : Int))) s)), .b true], [])) else none) := by kernel_rfl
def Q31 : Handle := runS [⟨64, dat (sp2 (fun _ _ => true) fun a b => .tuple [.s (cpS a b), .b (hpB a b)])⟩]
theorem q31 (lab : Lab) (s : List UInt8) (p : List UInt8) : evF (Γ mx) Q31 lab 31 [.s s, .s p] [] =
  some (.tuple [.s (cpS s p), .b (hpB s p)], []) := by kernel_rfl
theorem k79 (a b : List UInt8) (h : true = true) : RetX (Γ mx) 79 [.s a, .s b] [] (.b (hpB a b)) [] := c128 a b h
theorem kh64_ok : CallsOK (Γ mx) Q64 := specs_ok (.cons (sp2_ok k79) .nil)
theorem k64 (a b : List UInt8) (_ : true = true) : RetX (Γ mx) 64 [.s a, .s b] [] (.tuple [.s (cpS a b), .b (hpB a b)]) [] := by
  refine ret_goes (Γ := Γ mx) hP hZ kh64_ok (by kernel_rfl) ⟨0, ?_⟩
  rw [q64, cpS]
  cases hp : hpB a b with
  | false => rfl
  | true =>
    have hl : b.length ≤ a.length := by unfold hpB at hp; simp only [Bool.and_eq_true, decide_eq_true_eq] at hp; exact hp.1
    rw [decide_eq_true (show (0 : Int) ≤ (b.length : Int) by omega), decide_eq_true (show (b.length : Int) ≤ (a.length : Int) by omega)]
    show some (AV.tuple [.s (List.take (a.length - Int.toNat (b.length : Int)) (List.drop (Int.toNat (b.length : Int)) a)), .b true], ([] : Objs)) = some (AV.tuple [.s (a.drop b.length), .b true], [])
    rw [Int.toNat_natCast, List.take_of_length_le (by rw [List.length_drop]; exact Nat.le_refl _)]
theorem kh31_ok : CallsOK (Γ mx) Q31 := specs_ok (.cons (sp2_ok k64) .nil)
theorem k31 (a b : List UInt8) (_ : true = true) : RetX (Γ mx) 31 [.s a, .s b] [] (.tuple [.s (cpS a b), .b (hpB a b)]) [] := ret_goes (Γ := Γ mx) hP hZ kh31_ok (by kernel_rfl) ⟨0, by rw [q31]⟩
end Go.Proofs.YtjbemleloffafaaGreatDoor.V
