/- RuB, RuC, RuD, RuE, RuF: texts of this claim, put together in build order by program. -/
import Derived.Test.YtjbemleloffafaaDoorBe
/- Rules: what the machine over values makes of the functions: equations, written by program. -/
namespace Go.Proofs.YtjbemleloffafaaDoor.V
open Go
set_option maxRecDepth 100000
set_option linter.unusedVariables false
set_option linter.unusedSimpArgs false
def spDt (u : TypeId) (c : D → Bool) (f : D → Int → AV) : List AV → Option (Bool × AV)
  | [.d t x, .i .i64 n] => some (Nat.beq t u && c x, f x n)
  | _ => none
def spDu (u : TypeId) (c : D → Bool) (f : D → Int → AV) : List AV → Option (Bool × AV)
  | [.d t x, .i .u64 n] => some (Nat.beq t u && c x, f x n)
  | _ => none
def spClamp : List AV → Option (Bool × AV)
  | [.i .i64 n] => some (true, .i .i64 (clampZ n))
  | _ => none
def spLD (u v : TypeId) (c : List D → D → Bool) (f : List D → D → AV) : List AV → Option (Bool × AV)
  | [.sl t _ l, .d s x] => some (Nat.beq t u && (Nat.beq s v && c l x), f l x)
  | _ => none
def spLDt (u v : TypeId) (c : List D → D → Bool) (f : List D → D → Int → AV) : List AV → Option (Bool × AV)
  | [.sl t _ l, .d s x, .i .i64 n] => some (Nat.beq t u && (Nat.beq s v && c l x), f l x n)
  | _ => none
def xIs : List AV → Objs → Option (Bool × AV × Objs)
  | [.d t x, .ptr 0 [] s], [some (.box b (.i .u64 i))] => some (Nat.beq t 62 && (Nat.beq s 55 && (Nat.beq b 55 && vC x)), .b (vIs x i), [some (.box 55 (.i .u64 i))])
  | _, _ => none
def xPl : List AV → Objs → Option (Bool × AV × Objs)
  | [.sl t _ l, .fn g [.ptr 0 [] s]], [some (.box b (.i .u64 i))] => some (Nat.beq t 62 && (Nat.beq g 148 && (Nat.beq s 55 && (Nat.beq b 55 && vsC l))), .i .i64 (plI l i), [some (.box 55 (.i .u64 i))])
  | _, _ => none
variable {mx : Int}
theorem r90 (call : Handle) (lab : Lab) (md : Int) (un : Int) (ho : Bool) (t : Int) : evF (Γ mx) call lab 90 [.d 60 (D.agg [D.int .i64 md, D.int .i64 un, D.bool ho]), .i .i64 t] [] =
  bif md != 0 then (some (.b (decide (t < un)), [])) else (some (.b false, [])) := by kernel_rfl
def H63 : Handle := runS [⟨90, dat (spDt 60 isLk fun l t => .b (bindsD l t))⟩]
theorem r63 (lab : Lab) (md : Int) (un : Int) (ho : Bool) (t : Int) : evF (Γ mx) H63 lab 63 [.d 60 (D.agg [D.int .i64 md, D.int .i64 un, D.bool ho]), .i .i64 t] [] =
  bif ho then (some (.b true, [])) else (bif isLk (D.agg [D.int .i64 md, D.int .i64 un, D.bool ho]) then (some (.b (bindsD (D.agg [D.int .i64 md, D.int .i64 un, D.bool ho]) t), [])) else none) := by kernel_rfl
theorem r156 (call : Handle) (lab : Lab) (t : Int) : evF (Γ mx) call lab 156 [.i .i64 t] [] =
  some (.i .i64 (bif decide (((-62135596800) : Int) < (bif decide ((253402300799 : Int) < t) then 253402300799 else t)) then bif decide ((253402300799 : Int) < t) then 253402300799 else t else ((-62135596800))), []) := by kernel_rfl
def H157 : Handle := runS [⟨156, dat spClamp⟩]
theorem r157 (lab : Lab) (md : Int) (un : Int) (ho : Bool) : evF (Γ mx) H157 lab 157 [.d 60 (D.agg [D.int .i64 md, D.int .i64 un, D.bool ho])] [] =
  bif md == 0 then (some (.b (un == 0), [])) else (bif md == 1 then (bif md == 1 then (some (.b (un == (clampZ un)), [])) else (some (.b false, []))) else (bif md == 2 then (some (.b (un == (clampZ un)), [])) else (some (.b false, [])))) := by kernel_rfl
def H145 : Handle := runS [⟨156, dat spClamp⟩, ⟨157, dat (spD1 60 isLk fun l => .b (lkB l))⟩, ⟨26, dat (spL1s 80 tC fun l => .b (tsB l))⟩]
theorem r145 (lab : Lab) (vid : Int) (vmk : Bool) (vsz : Int) (vbl : Int) (vdg : List D) (vcr : Int) (vmd : Int) (vun : Int) (vho : Bool) (vc : Cp) (vtg : List D) : evF (Γ mx) H145 lab 145 [.d 62 (D.agg [D.int .u64 vid, D.bool vmk, D.int .i64 vsz, D.int .u64 vbl, D.agg vdg, D.int .i64 vcr, D.agg [D.int .i64 vmd, D.int .i64 vun, D.bool vho], D.slice vc vtg])] [] =
  bif vid == 0 then (some (.b false, [])) else (bif vcr != (clampZ vcr) then (some (.b false, [])) else (bif vmk then (bif vsz == 0 then (bif vbl == 0 then (bif eqD (D.agg vdg) (D.agg [D.int .u8 0, D.int .u8 0, D.int .u8 0, D.int .u8 0, D.int .u8 0, D.int .u8 0, D.int .u8 0, D.int .u8 0, D.int .u8 0, D.int .u8 0, D.int .u8 0, D.int .u8 0, D.int .u8 0, D.int .u8 0, D.int .u8 0, D.int .u8 0, D.int .u8 0, D.int .u8 0, D.int .u8 0, D.int .u8 0, D.int .u8 0, D.int .u8 0, D.int .u8 0, D.int .u8 0, D.int .u8 0, D.int .u8 0, D.int .u8 0, D.int .u8 0, D.int .u8 0, D.int .u8 0, D.int .u8 0, D.int .u8 0]) then (bif eqD (D.agg [D.int .i64 vmd, D.int .i64 vun, D.bool vho]) (D.agg [D.int .i64 0, D.int .i64 0, D.bool false]) then (some (.b (((vtg.length : Int)) == 0), [])) else (some (.b false, []))) else (some (.b false, []))) else (some (.b false, []))) else (some (.b false, []))) else (bif decide (vsz ≥ 0) then (bif decide (vsz ≤ 16384) then (bif decide (vbl > 0) then (bif isLk (D.agg [D.int .i64 vmd, D.int .i64 vun, D.bool vho]) then (bif lkB (D.agg [D.int .i64 vmd, D.int .i64 vun, D.bool vho]) then (bif tC vtg then (some (.b (tsB vtg), [])) else none) else (some (.b false, []))) else none) else (some (.b false, []))) else (some (.b false, []))) else (some (.b false, []))))) := by kernel_rfl
theorem r146 (call : Handle) (lab : Lab) (vid : Int) (vmk : Bool) (vsz : Int) (vbl : Int) (vdg : List D) (vcr : Int) (vmd : Int) (vun : Int) (vho : Bool) (vc : Cp) (vtg : List D) (uid : Int) (umk : Bool) (usz : Int) (ubl : Int) (udg : List D) (ucr : Int) (umd : Int) (uun : Int) (uho : Bool) (uc : Cp) (utg : List D) : evF (Γ mx) call lab 146 [.d 62 (D.agg [D.int .u64 vid, D.bool vmk, D.int .i64 vsz, D.int .u64 vbl, D.agg vdg, D.int .i64 vcr, D.agg [D.int .i64 vmd, D.int .i64 vun, D.bool vho], D.slice vc vtg]), .d 62 (D.agg [D.int .u64 uid, D.bool umk, D.int .i64 usz, D.int .u64 ubl, D.agg udg, D.int .i64 ucr, D.agg [D.int .i64 umd, D.int .i64 uun, D.bool uho], D.slice uc utg])] [] =
  bif decide (vid > uid) then (some (.b (decide (vcr ≥ ucr)), [])) else (some (.b false, [])) := by kernel_rfl
def H122 : Handle := runS [⟨145, dat (spD1 62 vC fun v => .b (vGood v))⟩, ⟨146, dat (spDD 62 62 (fun a b => vC a && vC b) fun a b => .b (behD a b))⟩]
theorem r122 (lab : Lab) (l : List D) : evF (Γ mx) H122 lab 122 [.sl 62 .any l] [] =
  lab (todoAt (Γ mx) 122 2) ⟨[(0, .sl 62 .any l), (5, .sl 62 .any l), (6, .i .i64 ((l.length : Int))), (7, .i .i64 0)], []⟩ := by kernel_rfl
theorem r122_2a (lab : Lab) (l1 : List D) (l2 : List D) (n3 : Int) (n4 : Int) : evL (Γ mx) H122 lab 122 2 ⟨[(0, .sl 62 .any l1), (5, .sl 62 .any l2), (6, .i .i64 n3), (7, .i .i64 n4)], []⟩ =
  bif decide (n4 < n3) then (idx l2 n4 fun y5 => dAgg y5 fun y6 => lCons y6 fun a7 r8 => dInt .u64 a7 fun n9 => lCons r8 fun a10 r11 => dBool a10 fun b12 => lCons r11 fun a13 r14 => dInt .i64 a13 fun n15 => lCons r14 fun a16 r17 => dInt .u64 a16 fun n18 => lCons r17 fun a19 r20 => dAgg a19 fun y21 => lCons r20 fun a22 r23 => dInt .i64 a22 fun n24 => lCons r23 fun a25 r26 => dAgg a25 fun y27 => lCons y27 fun a28 r29 => dInt .i64 a28 fun n30 => lCons r29 fun a31 r32 => dInt .i64 a31 fun n33 => lCons r32 fun a34 r35 => dBool a34 fun b36 => lNil r35 (lCons r26 fun a37 r38 => dSlice a37 fun c39 l40 => lNil r38 (bif vC (D.agg [D.int .u64 n9, D.bool b12, D.int .i64 n15, D.int .u64 n18, D.agg y21, D.int .i64 n24, D.agg [D.int .i64 n30, D.int .i64 n33, D.bool b36], D.slice c39 l40]) then (bif !(vGood (D.agg [D.int .u64 n9, D.bool b12, D.int .i64 n15, D.int .u64 n18, D.agg y21, D.int .i64 n24, D.agg [D.int .i64 n30, D.int .i64 n33, D.bool b36], D.slice c39 l40])) then (some (.b false, [])) else (bif decide (n4 > 0) then (idx l1 (IntKind.wrap .i64 (n4 - 1)) fun y41 => dAgg y41 fun y42 => lCons y42 fun a43 r44 => dInt .u64 a43 fun n45 => lCons r44 fun a46 r47 => dBool a46 fun b48 => lCons r47 fun a49 r50 => dInt .i64 a49 fun n51 => lCons r50 fun a52 r53 => dInt .u64 a52 fun n54 => lCons r53 fun a55 r56 => dAgg a55 fun y57 => lCons r56 fun a58 r59 => dInt .i64 a58 fun n60 => lCons r59 fun a61 r62 => dAgg a61 fun y63 => lCons y63 fun a64 r65 => dInt .i64 a64 fun n66 => lCons r65 fun a67 r68 => dInt .i64 a67 fun n69 => lCons r68 fun a70 r71 => dBool a70 fun b72 => lNil r71 (lCons r62 fun a73 r74 => dSlice a73 fun c75 l76 => lNil r74 (bif vC (D.agg [D.int .u64 n9, D.bool b12, D.int .i64 n15, D.int .u64 n18, D.agg y21, D.int .i64 n24, D.agg [D.int .i64 n30, D.int .i64 n33, D.bool b36], D.slice c39 l40]) && vC (D.agg [D.int .u64 n45, D.bool b48, D.int .i64 n51, D.int .u64 n54, D.agg y57, D.int .i64 n60, D.agg [D.int .i64 n66, D.int .i64 n69, D.bool b72], D.slice c75 l76]) then (bif !(behD (D.agg [D.int .u64 n9, D.bool b12, D.int .i64 n15, D.int .u64 n18, D.agg y21, D.int .i64 n24, D.agg [D.int .i64 n30, D.int .i64 n33, D.bool b36], D.slice c39 l40]) (D.agg [D.int .u64 n45, D.bool b48, D.int .i64 n51, D.int .u64 n54, D.agg y57, D.int .i64 n60, D.agg [D.int .i64 n66, D.int .i64 n69, D.bool b72], D.slice c75 l76])) then (some (.b false, [])) else (lab (todoAt (Γ mx) 122 2) ⟨[(0, .sl 62 .any l1), (5, .sl 62 .any l2), (6, .i .i64 n3), (7, .i .i64 (IntKind.wrap .i64 (n4 + 1)))], []⟩)) else none))) else (lab (todoAt (Γ mx) 122 2) ⟨[(0, .sl 62 .any l1), (5, .sl 62 .any l2), (6, .i .i64 n3), (7, .i .i64 (IntKind.wrap .i64 (n4 + 1)))], []⟩))) else none))) else (some (.b true, [])) := by kernel_rfl
def H121 : Handle := runS [⟨82, dat (sp1 short fun p => .b (cleanV p))⟩]
theorem r121 (lab : Lab) (s : List UInt8) : evF (Γ mx) H121 lab 121 [.s s] [] =
  bif !(s == ([] : List UInt8)) then (bif decide (((List.length s : Int)) ≤ 200) then (bif short s then (some (.b (cleanV s), [])) else none) else (some (.b false, []))) else (some (.b false, [])) := by kernel_rfl
def H88 : Handle := runS [⟨121, dat (sp1 short fun s => .b (keyB s))⟩, ⟨122, dat (spL1 62 vsC fun l => .b (risB l))⟩]
theorem r88 (lab : Lab) (ok : List UInt8) (oc : Cp) (ov : List D) : evF (Γ mx) H88 lab 88 [.d 53 (D.agg [D.str ok, D.slice oc ov])] [] =
  bif short ok then (bif keyB ok then (bif decide (((ov.length : Int)) > 0) then (bif vsC ov then (some (.b (risB ov), [])) else none) else (some (.b false, []))) else (some (.b false, []))) else none := by kernel_rfl
theorem r128 (call : Handle) (lab : Lab) (s : List UInt8) (p : List UInt8) : evF (Γ mx) call lab 128 [.s s, .s p] [] =
  bif decide (((List.length s : Int)) ≥ ((List.length p : Int))) then (bif decide ((0:Int) ≤ ((List.length p : Int))) && decide (((List.length p : Int)) ≤ (List.length s : Int)) then (some (.b ((List.take ((Int.toNat ((List.length p : Int))) - 0) (List.drop 0 s)) == p), [])) else none) else (some (.b false, [])) := by kernel_rfl
def H95 : Handle := runS [⟨128, dat (sp2 (fun _ _ => true) fun a b => .b (hpB a b))⟩]
theorem r95 (lab : Lab) (s : List UInt8) (p : List UInt8) : evF (Γ mx) H95 lab 95 [.s s, .s p] [] =
  some (.b (hpB s p), []) := by kernel_rfl
def H93 : Handle := runS [⟨82, dat (sp1 short fun p => .b (cleanV p))⟩, ⟨26, dat (spL1s 80 tC fun l => .b (tsB l))⟩]
theorem r93 (lab : Lab) (rp : List UInt8) (rc : Cp) (rt : List D) (rd : Int) (ro : Int) (rm : Bool) : evF (Γ mx) H93 lab 93 [.d 93 (D.agg [D.str rp, D.slice rc rt, D.int .i64 rd, D.int .i64 ro, D.bool rm])] [] =
  bif decide (((List.length rp : Int)) ≤ 200) then (bif short rp then (bif cleanV rp then (bif tC rt then (bif tsB rt then (bif decide (rd ≥ 0) then (bif decide (rd ≤ 36500) then (bif decide (ro ≥ 0) then (some (.b (decide (ro ≤ 36500)), [])) else (some (.b false, []))) else (some (.b false, []))) else (some (.b false, []))) else (some (.b false, []))) else none) else (some (.b false, []))) else none) else (some (.b false, [])) := by kernel_rfl
def H120 : Handle := runS [⟨93, dat (spD1 93 rC fun r => .b (rGood r))⟩]
theorem r120 (lab : Lab) (rp : List UInt8) (rc : Cp) (rt : List D) (rd : Int) (ro : Int) (rm : Bool) : evF (Γ mx) H120 lab 120 [.d 93 (D.agg [D.str rp, D.slice rc rt, D.int .i64 rd, D.int .i64 ro, D.bool rm])] [] =
  bif rC (D.agg [D.str rp, D.slice rc rt, D.int .i64 rd, D.int .i64 ro, D.bool rm]) then (some (.b (!(rGood (D.agg [D.str rp, D.slice rc rt, D.int .i64 rd, D.int .i64 ro, D.bool rm]))), [])) else none := by kernel_rfl
def H144 : Handle := runS [⟨120, dat (spD1 93 rC fun r => .b (!rGood r))⟩]
theorem r144 (lab : Lab) (l : List D) : evF (Γ mx) H144 lab 144 [.sl 93 .any l, .fn 120 []] [] =
  lab (todoAt (Γ mx) 144 2) ⟨[(0, .sl 93 .any l), (1, .fn 120 []), (7, .i .i64 ((l.length : Int))), (8, .i .i64 0)], []⟩ := by kernel_rfl
theorem r144_2a (lab : Lab) (l1 : List D) (n2 : Int) (n3 : Int) : evL (Γ mx) H144 lab 144 2 ⟨[(0, .sl 93 .any l1), (1, .fn 120 []), (7, .i .i64 n2), (8, .i .i64 n3)], []⟩ =
  bif decide (n3 < n2) then (idx l1 n3 fun y4 => dAgg y4 fun y5 => lCons y5 fun a6 r7 => dStr a6 fun s8 => lCons r7 fun a9 r10 => dSlice a9 fun c11 l12 => lCons r10 fun a13 r14 => dInt .i64 a13 fun n15 => lCons r14 fun a16 r17 => dInt .i64 a16 fun n18 => lCons r17 fun a19 r20 => dBool a19 fun b21 => lNil r20 (bif rC (D.agg [D.str s8, D.slice c11 l12, D.int .i64 n15, D.int .i64 n18, D.bool b21]) then (bif !rGood (D.agg [D.str s8, D.slice c11 l12, D.int .i64 n15, D.int .i64 n18, D.bool b21]) then (some (.i .i64 n3, [])) else (lab (todoAt (Γ mx) 144 2) ⟨[(0, .sl 93 .any l1), (1, .fn 120 []), (7, .i .i64 n2), (8, .i .i64 (IntKind.wrap .i64 (n3 + 1)))], []⟩)) else none)) else (some (.i .i64 (-1), [])) := by kernel_rfl
def H119 : Handle := runS [⟨144, dat (spLF 93 120 rsC fun l => .i .i64 (rsI l))⟩]
theorem r119 (lab : Lab) (l : List D) : evF (Γ mx) H119 lab 119 [.sl 93 .any l, .fn 120 []] [] =
  bif rsC l then (some (.b (decide ((rsI l) ≥ 0)), [])) else none := by kernel_rfl
def H87 : Handle := runS [⟨119, dat (spLF 93 120 rsC fun l => .b (!rsA l))⟩]
theorem r87 (lab : Lab) (l : List D) : evF (Γ mx) H87 lab 87 [.sl 93 .any l] [] =
  bif decide (((l.length : Int)) ≤ 8) then (bif rsC l then (some (.b (!(!rsA l)), [])) else none) else (some (.b false, [])) := by kernel_rfl
def H152 : Handle := runS [⟨50, xClone⟩, ⟨53, dat (spL1 80 (fun _ => true) fun l => .sl 80 .cl l)⟩]
theorem r152 (lab : Lab) (x : D) (r : List D) : evF (Γ mx) H152 lab 152 [.sl 80 .any ((x :: r))] [] =
  bif tC ((x :: r)) then (some (.sl 80 .cl ((((x :: r)))), [])) else none := by kernel_rfl
theorem nr152 (lab : Lab) : evF (Γ mx) H152 lab 152 [.sl 80 .any []] [] =
  some (.sl 80 .cl (([])), []) := by kernel_rfl
def H127 : Handle := runS [⟨152, dat (spL1 80 tC fun l => .sl 80 .cl l)⟩]
theorem r127 (lab : Lab) (vid : Int) (vmk : Bool) (vsz : Int) (vbl : Int) (vdg : List D) (vcr : Int) (vmd : Int) (vun : Int) (vho : Bool) (vc : Cp) (vtg : List D) : evF (Γ mx) H127 lab 127 [.d 62 (D.agg [D.int .u64 vid, D.bool vmk, D.int .i64 vsz, D.int .u64 vbl, D.agg vdg, D.int .i64 vcr, D.agg [D.int .i64 vmd, D.int .i64 vun, D.bool vho], D.slice vc vtg])] [] =
  bif tC vtg then (some (.d 62 (D.agg [D.int .u64 vid, D.bool vmk, D.int .i64 vsz, D.int .u64 vbl, D.agg vdg, D.int .i64 vcr, D.agg [D.int .i64 vmd, D.int .i64 vun, D.bool vho], D.slice .cl vtg]), [])) else none := by kernel_rfl
def H94 : Handle := runS [⟨88, dat (spD1 53 oC fun o => .b (oSnd o))⟩, ⟨127, dat (spD1 62 vC fun v => .d 62 (cloneD v))⟩]
theorem r94 (lab : Lab) (ok : List UInt8) (oc : Cp) (ov : List D) : evF (Γ mx) H94 lab 94 [.d 53 (D.agg [D.str ok, D.slice oc ov])] [] =
  bif oC (D.agg [D.str ok, D.slice oc ov]) then (bif !(oSnd (D.agg [D.str ok, D.slice oc ov])) then (some (.tuple [.d 62 (D.agg [D.int .u64 0, D.bool false, D.int .i64 0, D.int .u64 0, D.agg [D.int .u8 0, D.int .u8 0, D.int .u8 0, D.int .u8 0, D.int .u8 0, D.int .u8 0, D.int .u8 0, D.int .u8 0, D.int .u8 0, D.int .u8 0, D.int .u8 0, D.int .u8 0, D.int .u8 0, D.int .u8 0, D.int .u8 0, D.int .u8 0, D.int .u8 0, D.int .u8 0, D.int .u8 0, D.int .u8 0, D.int .u8 0, D.int .u8 0, D.int .u8 0, D.int .u8 0, D.int .u8 0, D.int .u8 0, D.int .u8 0, D.int .u8 0, D.int .u8 0, D.int .u8 0, D.int .u8 0, D.int .u8 0], D.int .i64 0, D.agg [D.int .i64 0, D.int .i64 0, D.bool false], D.slice .nl []]), .i .i64 2], [])) else (idx ov (IntKind.wrap .i64 (((ov.length : Int)) - 1)) fun y1 => dAgg y1 fun y2 => lCons y2 fun a3 r4 => dInt .u64 a3 fun n5 => lCons r4 fun a6 r7 => dBool a6 fun b8 => lCons r7 fun a9 r10 => dInt .i64 a9 fun n11 => lCons r10 fun a12 r13 => dInt .u64 a12 fun n14 => lCons r13 fun a15 r16 => dAgg a15 fun y17 => lCons r16 fun a18 r19 => dInt .i64 a18 fun n20 => lCons r19 fun a21 r22 => dAgg a21 fun y23 => lCons y23 fun a24 r25 => dInt .i64 a24 fun n26 => lCons r25 fun a27 r28 => dInt .i64 a27 fun n29 => lCons r28 fun a30 r31 => dBool a30 fun b32 => lNil r31 (lCons r22 fun a33 r34 => dSlice a33 fun c35 l36 => lNil r34 (bif vC (D.agg [D.int .u64 n5, D.bool b8, D.int .i64 n11, D.int .u64 n14, D.agg y17, D.int .i64 n20, D.agg [D.int .i64 n26, D.int .i64 n29, D.bool b32], D.slice c35 l36]) then (dAgg ((cloneD (D.agg [D.int .u64 n5, D.bool b8, D.int .i64 n11, D.int .u64 n14, D.agg y17, D.int .i64 n20, D.agg [D.int .i64 n26, D.int .i64 n29, D.bool b32], D.slice c35 l36]))) fun y37 => lCons y37 fun a38 r39 => dInt .u64 a38 fun n40 => lCons r39 fun a41 r42 => dBool a41 fun b43 => lCons r42 fun a44 r45 => dInt .i64 a44 fun n46 => lCons r45 fun a47 r48 => dInt .u64 a47 fun n49 => lCons r48 fun a50 r51 => dAgg a50 fun y52 => lCons r51 fun a53 r54 => dInt .i64 a53 fun n55 => lCons r54 fun a56 r57 => dAgg a56 fun y58 => lCons y58 fun a59 r60 => dInt .i64 a59 fun n61 => lCons r60 fun a62 r63 => dInt .i64 a62 fun n64 => lCons r63 fun a65 r66 => dBool a65 fun b67 => lNil r66 (lCons r57 fun a68 r69 => dSlice a68 fun c70 l71 => lNil r69 (some (.tuple [.d 62 (D.agg [D.int .u64 n40, D.bool b43, D.int .i64 n46, D.int .u64 n49, D.agg y52, D.int .i64 n55, D.agg [D.int .i64 n61, D.int .i64 n64, D.bool b67], D.slice c70 l71]), .i .i64 0], [])))) else none)))) else none := by kernel_rfl
def H65 : Handle := runS [⟨94, dat (spD1 53 oC fun o => .tuple [.d 62 (latD o), .i .i64 (latE o)])⟩, ⟨95, dat (sp2 (fun _ _ => true) fun a b => .b (hpB a b))⟩, ⟨30, dat (spLL 80 80 (fun a b => tC a && tC b) fun a b => .b (withinB a b))⟩]
theorem r65 (lab : Lab) (rp : List UInt8) (rc : Cp) (rt : List D) (rd : Int) (ro : Int) (rm : Bool) (ok : List UInt8) (oc : Cp) (ov : List D) : evF (Γ mx) H65 lab 65 [.d 93 (D.agg [D.str rp, D.slice rc rt, D.int .i64 rd, D.int .i64 ro, D.bool rm]), .d 53 (D.agg [D.str ok, D.slice oc ov])] [] =
  bif oC (D.agg [D.str ok, D.slice oc ov]) then (dAgg ((latD (D.agg [D.str ok, D.slice oc ov]))) fun y1 => lCons y1 fun a2 r3 => dInt .u64 a2 fun n4 => lCons r3 fun a5 r6 => dBool a5 fun b7 => lCons r6 fun a8 r9 => dInt .i64 a8 fun n10 => lCons r9 fun a11 r12 => dInt .u64 a11 fun n13 => lCons r12 fun a14 r15 => dAgg a14 fun y16 => lCons r15 fun a17 r18 => dInt .i64 a17 fun n19 => lCons r18 fun a20 r21 => dAgg a20 fun y22 => lCons y22 fun a23 r24 => dInt .i64 a23 fun n25 => lCons r24 fun a26 r27 => dInt .i64 a26 fun n28 => lCons r27 fun a29 r30 => dBool a29 fun b31 => lNil r30 (lCons r21 fun a32 r33 => dSlice a32 fun c34 l35 => lNil r33 (bif (latE (D.agg [D.str ok, D.slice oc ov])) == 0 then (bif hpB ok rp then (bif tC rt && tC l35 then (some (.b (withinB rt l35), [])) else none) else (some (.b false, []))) else (some (.b false, []))))) else none := by kernel_rfl
theorem r148 (call : Handle) (lab : Lab) (vid : Int) (vmk : Bool) (vsz : Int) (vbl : Int) (vdg : List D) (vcr : Int) (vmd : Int) (vun : Int) (vho : Bool) (vc : Cp) (vtg : List D) (i : Int) : evF (Γ mx) call lab 148 [.d 62 (D.agg [D.int .u64 vid, D.bool vmk, D.int .i64 vsz, D.int .u64 vbl, D.agg vdg, D.int .i64 vcr, D.agg [D.int .i64 vmd, D.int .i64 vun, D.bool vho], D.slice vc vtg]), .ptr 0 [] 55] [some (.box 55 (.i .u64 i))] =
  some (.b (vid == i), [some (.box 55 (.i .u64 i))]) := by kernel_rfl
def H147 : Handle := runS [⟨148, xIs⟩]
theorem r147 (lab : Lab) (l : List D) (i : Int) : evF (Γ mx) H147 lab 147 [.sl 62 .any l, .fn 148 [.ptr 0 [] 55]] [some (.box 55 (.i .u64 i))] =
  lab (todoAt (Γ mx) 147 2) ⟨[(0, .sl 62 .any l), (1, .fn 148 [.ptr 0 [] 55]), (7, .i .i64 ((l.length : Int))), (8, .i .i64 0)], [some (.box 55 (.i .u64 i))]⟩ := by kernel_rfl
theorem r147_2a (lab : Lab) (l1 : List D) (n2 : Int) (n3 : Int) (n4 : Int) : evL (Γ mx) H147 lab 147 2 ⟨[(0, .sl 62 .any l1), (1, .fn 148 [.ptr 0 [] 55]), (7, .i .i64 n2), (8, .i .i64 n3)], [some (.box 55 (.i .u64 n4))]⟩ =
  bif decide (n3 < n2) then (idx l1 n3 fun y5 => dAgg y5 fun y6 => lCons y6 fun a7 r8 => dInt .u64 a7 fun n9 => lCons r8 fun a10 r11 => dBool a10 fun b12 => lCons r11 fun a13 r14 => dInt .i64 a13 fun n15 => lCons r14 fun a16 r17 => dInt .u64 a16 fun n18 => lCons r17 fun a19 r20 => dAgg a19 fun y21 => lCons r20 fun a22 r23 => dInt .i64 a22 fun n24 => lCons r23 fun a25 r26 => dAgg a25 fun y27 => lCons y27 fun a28 r29 => dInt .i64 a28 fun n30 => lCons r29 fun a31 r32 => dInt .i64 a31 fun n33 => lCons r32 fun a34 r35 => dBool a34 fun b36 => lNil r35 (lCons r26 fun a37 r38 => dSlice a37 fun c39 l40 => lNil r38 (bif true && vC (D.agg [D.int .u64 n9, D.bool b12, D.int .i64 n15, D.int .u64 n18, D.agg y21, D.int .i64 n24, D.agg [D.int .i64 n30, D.int .i64 n33, D.bool b36], D.slice c39 l40]) then (bif vIs (D.agg [D.int .u64 n9, D.bool b12, D.int .i64 n15, D.int .u64 n18, D.agg y21, D.int .i64 n24, D.agg [D.int .i64 n30, D.int .i64 n33, D.bool b36], D.slice c39 l40]) n4 then (some (.i .i64 n3, [some (.box 55 (.i .u64 n4))])) else (lab (todoAt (Γ mx) 147 2) ⟨[(0, .sl 62 .any l1), (1, .fn 148 [.ptr 0 [] 55]), (7, .i .i64 n2), (8, .i .i64 (IntKind.wrap .i64 (n3 + 1)))], [some (.box 55 (.i .u64 n4))]⟩)) else none))) else (some (.i .i64 (-1), [some (.box 55 (.i .u64 n4))])) := by kernel_rfl
def H123 : Handle := runS [⟨147, xPl⟩]
theorem r123 (lab : Lab) (ok : List UInt8) (oc : Cp) (ov : List D) (i : Int) : evF (Γ mx) H123 lab 123 [.d 53 (D.agg [D.str ok, D.slice oc ov]), .i .u64 i] [] =
  bif vsC ov then (some (.i .i64 (plI ov i), [])) else none := by kernel_rfl
def H89 : Handle := runS [⟨88, dat (spD1 53 oC fun o => .b (oSnd o))⟩, ⟨123, dat (spDu 53 oC fun o i => .i .i64 (plO o i))⟩]
theorem r89 (lab : Lab) (ok : List UInt8) (oc : Cp) (ov : List D) (i : Int) : evF (Γ mx) H89 lab 89 [.d 53 (D.agg [D.str ok, D.slice oc ov]), .i .u64 i] [] =
  bif oC (D.agg [D.str ok, D.slice oc ov]) then (bif !(oSnd (D.agg [D.str ok, D.slice oc ov])) then (some (.tuple [.i .i64 0, .b false], [])) else (bif oC (D.agg [D.str ok, D.slice oc ov]) then (bif decide ((plO (D.agg [D.str ok, D.slice oc ov]) i) < 0) then (some (.tuple [.i .i64 0, .b false], [])) else (bif (plO (D.agg [D.str ok, D.slice oc ov]) i) == (IntKind.wrap .i64 (((ov.length : Int)) - 1)) then (some (.tuple [.i .i64 0, .b false], [])) else (idx ov (IntKind.wrap .i64 ((plO (D.agg [D.str ok, D.slice oc ov]) i) + 1)) fun y1 => dAgg y1 fun y2 => lGet y2 5 fun y3 => dInt .i64 y3 fun n4 => some (.tuple [.i .i64 n4, .b true], [])))) else none)) else none := by kernel_rfl
def H61 : Handle := runS [⟨87, dat (spL1 93 rsC fun l => .b (rsB l))⟩, ⟨88, dat (spD1 53 oC fun o => .b (oSnd o))⟩]
theorem r61 (lab : Lab) (l : List D) (ok : List UInt8) (oc : Cp) (ov : List D) : evF (Γ mx) H61 lab 61 [.sl 93 .any l, .d 53 (D.agg [D.str ok, D.slice oc ov])] [] =
  bif rsC l then (bif rsB l then (bif oC (D.agg [D.str ok, D.slice oc ov]) then (some (.b (oSnd (D.agg [D.str ok, D.slice oc ov])), [])) else none) else (some (.b false, []))) else none := by kernel_rfl
def H62 : Handle := runS [⟨65, dat (spDD 93 53 (fun r o => rC r && oC o) fun r o => .b (meantD r o))⟩, ⟨89, dat (spDu 53 oC fun o i => .tuple [.i .i64 (replT o i), .b (replB o i)])⟩]
theorem r62 (lab : Lab) (l : List D) (ok : List UInt8) (oc : Cp) (ov : List D) : evF (Γ mx) H62 lab 62 [.sl 93 .any l, .d 53 (D.agg [D.str ok, D.slice oc ov])] [] =
  idx ov (IntKind.wrap .i64 (((ov.length : Int)) - 1)) fun y1 => dAgg y1 fun y2 => lCons y2 fun a3 r4 => dInt .u64 a3 fun n5 => lCons r4 fun a6 r7 => dBool a6 fun b8 => lCons r7 fun a9 r10 => dInt .i64 a9 fun n11 => lCons r10 fun a12 r13 => dInt .u64 a12 fun n14 => lCons r13 fun a15 r16 => dAgg a15 fun y17 => lCons r16 fun a18 r19 => dInt .i64 a18 fun n20 => lCons r19 fun a21 r22 => dAgg a21 fun y23 => lCons y23 fun a24 r25 => dInt .i64 a24 fun n26 => lCons r25 fun a27 r28 => dInt .i64 a27 fun n29 => lCons r28 fun a30 r31 => dBool a30 fun b32 => lNil r31 (lCons r22 fun a33 r34 => dSlice a33 fun c35 l36 => lNil r34 (lab (todoAt (Γ mx) 62 4) ⟨[(0, .sl 93 .any l), (3, .ptr 0 [] 53), (5, .snil), (6, .ptr 1 [] 62), (24, .sl 62 oc ov), (25, .i .i64 ((ov.length : Int))), (26, .i .i64 0)], [some (.box 53 (.d 53 (D.agg [D.str ok, D.slice oc ov]))), some (.box 62 (.d 62 (D.agg [D.int .u64 n5, D.bool b8, D.int .i64 n11, D.int .u64 n14, D.agg y17, D.int .i64 n20, D.agg [D.int .i64 n26, D.int .i64 n29, D.bool b32], D.slice c35 l36])))]⟩)) := by kernel_rfl
theorem r62_4a (lab : Lab) (l1 : List D) (c2 : Cp) (l3 : List D) (n4 : Int) (n5 : Int) (s6 : List UInt8) (c7 : Cp) (l8 : List D) (n9 : Int) (b10 : Bool) (n11 : Int) (n12 : Int) (y13 : List D) (n14 : Int) (n15 : Int) (n16 : Int) (b17 : Bool) (c18 : Cp) (l19 : List D) : evL (Γ mx) H62 lab 62 4 ⟨[(0, .sl 93 .any l1), (3, .ptr 0 [] 53), (5, .snil), (6, .ptr 1 [] 62), (24, .sl 62 c2 l3), (25, .i .i64 n4), (26, .i .i64 n5)], [some (.box 53 (.d 53 (D.agg [D.str s6, D.slice c7 l8]))), some (.box 62 (.d 62 (D.agg [D.int .u64 n9, D.bool b10, D.int .i64 n11, D.int .u64 n12, D.agg y13, D.int .i64 n14, D.agg [D.int .i64 n15, D.int .i64 n16, D.bool b17], D.slice c18 l19])))]⟩ =
  bif decide (n5 < n4) then (idx l3 n5 fun y20 => dAgg y20 fun y21 => lCons y21 fun a22 r23 => dInt .u64 a22 fun n24 => lCons r23 fun a25 r26 => dBool a25 fun b27 => lCons r26 fun a28 r29 => dInt .i64 a28 fun n30 => lCons r29 fun a31 r32 => dInt .u64 a31 fun n33 => lCons r32 fun a34 r35 => dAgg a34 fun y36 => lCons r35 fun a37 r38 => dInt .i64 a37 fun n39 => lCons r38 fun a40 r41 => dAgg a40 fun y42 => lCons y42 fun a43 r44 => dInt .i64 a43 fun n45 => lCons r44 fun a46 r47 => dInt .i64 a46 fun n48 => lCons r47 fun a49 r50 => dBool a49 fun b51 => lNil r50 (lCons r41 fun a52 r53 => dSlice a52 fun c54 l55 => lNil r53 (bif oC (D.agg [D.str s6, D.slice c7 l8]) then (lab (todoAt (Γ mx) 62 8) ⟨[(0, .sl 93 .any l1), (3, .ptr 0 [] 53), (5, .snil), (6, .ptr 1 [] 62), (8, .ptr 2 [] 62), (9, .i .i64 (replT (D.agg [D.str s6, D.slice c7 l8]) n24)), (10, .b (replB (D.agg [D.str s6, D.slice c7 l8]) n24)), (24, .sl 62 c2 l3), (25, .i .i64 n4), (26, .i .i64 n5), (37, .sl 93 .any l1), (38, .i .i64 ((l1.length : Int))), (39, .i .i64 0)], [some (.box 53 (.d 53 (D.agg [D.str s6, D.slice c7 l8]))), some (.box 62 (.d 62 (D.agg [D.int .u64 n9, D.bool b10, D.int .i64 n11, D.int .u64 n12, D.agg y13, D.int .i64 n14, D.agg [D.int .i64 n15, D.int .i64 n16, D.bool b17], D.slice c18 l19]))), some (.box 62 (.d 62 (D.agg [D.int .u64 n24, D.bool b27, D.int .i64 n30, D.int .u64 n33, D.agg y36, D.int .i64 n39, D.agg [D.int .i64 n45, D.int .i64 n48, D.bool b51], D.slice c54 l55])))]⟩) else none))) else (lab (todoAt (Γ mx) 62 18) ⟨[(3, .ptr 0 [] 53), (5, .snil), (6, .ptr 1 [] 62), (95, .sl 93 .any l1), (96, .i .i64 ((l1.length : Int))), (97, .i .i64 0)], [some (.box 53 (.d 53 (D.agg [D.str s6, D.slice c7 l8]))), some (.box 62 (.d 62 (D.agg [D.int .u64 n9, D.bool b10, D.int .i64 n11, D.int .u64 n12, D.agg y13, D.int .i64 n14, D.agg [D.int .i64 n15, D.int .i64 n16, D.bool b17], D.slice c18 l19])))]⟩) := by kernel_rfl
theorem r62_8a (lab : Lab) (l1 : List D) (n2 : Int) (b3 : Bool) (c4 : Cp) (l5 : List D) (n6 : Int) (n7 : Int) (l8 : List D) (n9 : Int) (n10 : Int) (s11 : List UInt8) (c12 : Cp) (l13 : List D) (n14 : Int) (b15 : Bool) (n16 : Int) (n17 : Int) (y18 : List D) (n19 : Int) (n20 : Int) (n21 : Int) (b22 : Bool) (c23 : Cp) (l24 : List D) (n25 : Int) (b26 : Bool) (n27 : Int) (n28 : Int) (y29 : List D) (n30 : Int) (n31 : Int) (n32 : Int) (b33 : Bool) (c34 : Cp) (l35 : List D) : evL (Γ mx) H62 lab 62 8 ⟨[(0, .sl 93 .any l1), (3, .ptr 0 [] 53), (5, .snil), (6, .ptr 1 [] 62), (8, .ptr 2 [] 62), (9, .i .i64 n2), (10, .b b3), (24, .sl 62 c4 l5), (25, .i .i64 n6), (26, .i .i64 n7), (37, .sl 93 .any l8), (38, .i .i64 n9), (39, .i .i64 n10)], [some (.box 53 (.d 53 (D.agg [D.str s11, D.slice c12 l13]))), some (.box 62 (.d 62 (D.agg [D.int .u64 n14, D.bool b15, D.int .i64 n16, D.int .u64 n17, D.agg y18, D.int .i64 n19, D.agg [D.int .i64 n20, D.int .i64 n21, D.bool b22], D.slice c23 l24]))), some (.box 62 (.d 62 (D.agg [D.int .u64 n25, D.bool b26, D.int .i64 n27, D.int .u64 n28, D.agg y29, D.int .i64 n30, D.agg [D.int .i64 n31, D.int .i64 n32, D.bool b33], D.slice c34 l35])))]⟩ =
  bif decide (n10 < n9) then (idx l8 n10 fun y36 => dAgg y36 fun y37 => lCons y37 fun a38 r39 => dStr a38 fun s40 => lCons r39 fun a41 r42 => dSlice a41 fun c43 l44 => lCons r42 fun a45 r46 => dInt .i64 a45 fun n47 => lCons r46 fun a48 r49 => dInt .i64 a48 fun n50 => lCons r49 fun a51 r52 => dBool a51 fun b53 => lNil r52 (bif rC (D.agg [D.str s40, D.slice c43 l44, D.int .i64 n47, D.int .i64 n50, D.bool b53]) && oC (D.agg [D.str s11, D.slice c12 l13]) then (bif !(meantD (D.agg [D.str s40, D.slice c43 l44, D.int .i64 n47, D.int .i64 n50, D.bool b53]) (D.agg [D.str s11, D.slice c12 l13])) then (lab (todoAt (Γ mx) 62 8) ⟨[(0, .sl 93 .any l1), (3, .ptr 0 [] 53), (5, .snil), (6, .ptr 1 [] 62), (8, .ptr 2 [] 62), (9, .i .i64 n2), (10, .b b3), (24, .sl 62 c4 l5), (25, .i .i64 n6), (26, .i .i64 n7), (37, .sl 93 .any l8), (38, .i .i64 n9), (39, .i .i64 (IntKind.wrap .i64 (n10 + 1)))], [some (.box 53 (.d 53 (D.agg [D.str s11, D.slice c12 l13]))), some (.box 62 (.d 62 (D.agg [D.int .u64 n14, D.bool b15, D.int .i64 n16, D.int .u64 n17, D.agg y18, D.int .i64 n19, D.agg [D.int .i64 n20, D.int .i64 n21, D.bool b22], D.slice c23 l24]))), some (.box 62 (.d 62 (D.agg [D.int .u64 n25, D.bool b26, D.int .i64 n27, D.int .u64 n28, D.agg y29, D.int .i64 n30, D.agg [D.int .i64 n31, D.int .i64 n32, D.bool b33], D.slice c34 l35])))]⟩) else (bif b3 then (bif decide (n50 > 0) then (lab (todoAt (Γ mx) 62 8) ⟨[(0, .sl 93 .any l1), (3, .ptr 0 [] 53), (5, .ref 90 1), (6, .ptr 2 [] 62), (8, .ptr 3 [] 62), (9, .i .i64 n2), (10, .b b3), (24, .sl 62 c4 l5), (25, .i .i64 n6), (26, .i .i64 n7), (37, .sl 93 .any l8), (38, .i .i64 n9), (39, .i .i64 (IntKind.wrap .i64 (n10 + 1)))], [some (.box 53 (.d 53 (D.agg [D.str s11, D.slice c12 l13]))), some (.arr 90 [D.agg [D.int .i64 (IntKind.wrap .i64 (n2 + (IntKind.wrap .i64 (n50 * 86400)))), D.int .u64 n25, D.agg [D.int .i64 n31, D.int .i64 n32, D.bool b33]]] false), some (.box 62 (.d 62 (D.agg [D.int .u64 n14, D.bool b15, D.int .i64 n16, D.int .u64 n17, D.agg y18, D.int .i64 n19, D.agg [D.int .i64 n20, D.int .i64 n21, D.bool b22], D.slice c23 l24]))), some (.box 62 (.d 62 (D.agg [D.int .u64 n25, D.bool b26, D.int .i64 n27, D.int .u64 n28, D.agg y29, D.int .i64 n30, D.agg [D.int .i64 n31, D.int .i64 n32, D.bool b33], D.slice c34 l35])))]⟩) else (bif !b3 then (bif b26 then (bif b53 then (bif ((l13.length : Int)) == 1 then (lab (todoAt (Γ mx) 62 8) ⟨[(0, .sl 93 .any l1), (3, .ptr 0 [] 53), (5, .ref 90 1), (6, .ptr 2 [] 62), (8, .ptr 3 [] 62), (9, .i .i64 n2), (10, .b b3), (24, .sl 62 c4 l5), (25, .i .i64 n6), (26, .i .i64 n7), (37, .sl 93 .any l8), (38, .i .i64 n9), (39, .i .i64 (IntKind.wrap .i64 (n10 + 1)))], [some (.box 53 (.d 53 (D.agg [D.str s11, D.slice c12 l13]))), some (.arr 90 [D.agg [D.int .i64 (-62135596800), D.int .u64 n25, D.agg [D.int .i64 n31, D.int .i64 n32, D.bool b33]]] false), some (.box 62 (.d 62 (D.agg [D.int .u64 n14, D.bool b15, D.int .i64 n16, D.int .u64 n17, D.agg y18, D.int .i64 n19, D.agg [D.int .i64 n20, D.int .i64 n21, D.bool b22], D.slice c23 l24]))), some (.box 62 (.d 62 (D.agg [D.int .u64 n25, D.bool b26, D.int .i64 n27, D.int .u64 n28, D.agg y29, D.int .i64 n30, D.agg [D.int .i64 n31, D.int .i64 n32, D.bool b33], D.slice c34 l35])))]⟩) else (lab (todoAt (Γ mx) 62 8) ⟨[(0, .sl 93 .any l1), (3, .ptr 0 [] 53), (5, .snil), (6, .ptr 1 [] 62), (8, .ptr 2 [] 62), (9, .i .i64 n2), (10, .b b3), (24, .sl 62 c4 l5), (25, .i .i64 n6), (26, .i .i64 n7), (37, .sl 93 .any l8), (38, .i .i64 n9), (39, .i .i64 (IntKind.wrap .i64 (n10 + 1)))], [some (.box 53 (.d 53 (D.agg [D.str s11, D.slice c12 l13]))), some (.box 62 (.d 62 (D.agg [D.int .u64 n14, D.bool b15, D.int .i64 n16, D.int .u64 n17, D.agg y18, D.int .i64 n19, D.agg [D.int .i64 n20, D.int .i64 n21, D.bool b22], D.slice c23 l24]))), some (.box 62 (.d 62 (D.agg [D.int .u64 n25, D.bool b26, D.int .i64 n27, D.int .u64 n28, D.agg y29, D.int .i64 n30, D.agg [D.int .i64 n31, D.int .i64 n32, D.bool b33], D.slice c34 l35])))]⟩)) else (lab (todoAt (Γ mx) 62 8) ⟨[(0, .sl 93 .any l1), (3, .ptr 0 [] 53), (5, .snil), (6, .ptr 1 [] 62), (8, .ptr 2 [] 62), (9, .i .i64 n2), (10, .b b3), (24, .sl 62 c4 l5), (25, .i .i64 n6), (26, .i .i64 n7), (37, .sl 93 .any l8), (38, .i .i64 n9), (39, .i .i64 (IntKind.wrap .i64 (n10 + 1)))], [some (.box 53 (.d 53 (D.agg [D.str s11, D.slice c12 l13]))), some (.box 62 (.d 62 (D.agg [D.int .u64 n14, D.bool b15, D.int .i64 n16, D.int .u64 n17, D.agg y18, D.int .i64 n19, D.agg [D.int .i64 n20, D.int .i64 n21, D.bool b22], D.slice c23 l24]))), some (.box 62 (.d 62 (D.agg [D.int .u64 n25, D.bool b26, D.int .i64 n27, D.int .u64 n28, D.agg y29, D.int .i64 n30, D.agg [D.int .i64 n31, D.int .i64 n32, D.bool b33], D.slice c34 l35])))]⟩)) else (lab (todoAt (Γ mx) 62 8) ⟨[(0, .sl 93 .any l1), (3, .ptr 0 [] 53), (5, .snil), (6, .ptr 1 [] 62), (8, .ptr 2 [] 62), (9, .i .i64 n2), (10, .b b3), (24, .sl 62 c4 l5), (25, .i .i64 n6), (26, .i .i64 n7), (37, .sl 93 .any l8), (38, .i .i64 n9), (39, .i .i64 (IntKind.wrap .i64 (n10 + 1)))], [some (.box 53 (.d 53 (D.agg [D.str s11, D.slice c12 l13]))), some (.box 62 (.d 62 (D.agg [D.int .u64 n14, D.bool b15, D.int .i64 n16, D.int .u64 n17, D.agg y18, D.int .i64 n19, D.agg [D.int .i64 n20, D.int .i64 n21, D.bool b22], D.slice c23 l24]))), some (.box 62 (.d 62 (D.agg [D.int .u64 n25, D.bool b26, D.int .i64 n27, D.int .u64 n28, D.agg y29, D.int .i64 n30, D.agg [D.int .i64 n31, D.int .i64 n32, D.bool b33], D.slice c34 l35])))]⟩)) else (lab (todoAt (Γ mx) 62 8) ⟨[(0, .sl 93 .any l1), (3, .ptr 0 [] 53), (5, .snil), (6, .ptr 1 [] 62), (8, .ptr 2 [] 62), (9, .i .i64 n2), (10, .b b3), (24, .sl 62 c4 l5), (25, .i .i64 n6), (26, .i .i64 n7), (37, .sl 93 .any l8), (38, .i .i64 n9), (39, .i .i64 (IntKind.wrap .i64 (n10 + 1)))], [some (.box 53 (.d 53 (D.agg [D.str s11, D.slice c12 l13]))), some (.box 62 (.d 62 (D.agg [D.int .u64 n14, D.bool b15, D.int .i64 n16, D.int .u64 n17, D.agg y18, D.int .i64 n19, D.agg [D.int .i64 n20, D.int .i64 n21, D.bool b22], D.slice c23 l24]))), some (.box 62 (.d 62 (D.agg [D.int .u64 n25, D.bool b26, D.int .i64 n27, D.int .u64 n28, D.agg y29, D.int .i64 n30, D.agg [D.int .i64 n31, D.int .i64 n32, D.bool b33], D.slice c34 l35])))]⟩))) else (bif !b3 then (bif b26 then (bif b53 then (bif ((l13.length : Int)) == 1 then (lab (todoAt (Γ mx) 62 8) ⟨[(0, .sl 93 .any l1), (3, .ptr 0 [] 53), (5, .ref 90 1), (6, .ptr 2 [] 62), (8, .ptr 3 [] 62), (9, .i .i64 n2), (10, .b b3), (24, .sl 62 c4 l5), (25, .i .i64 n6), (26, .i .i64 n7), (37, .sl 93 .any l8), (38, .i .i64 n9), (39, .i .i64 (IntKind.wrap .i64 (n10 + 1)))], [some (.box 53 (.d 53 (D.agg [D.str s11, D.slice c12 l13]))), some (.arr 90 [D.agg [D.int .i64 (-62135596800), D.int .u64 n25, D.agg [D.int .i64 n31, D.int .i64 n32, D.bool b33]]] false), some (.box 62 (.d 62 (D.agg [D.int .u64 n14, D.bool b15, D.int .i64 n16, D.int .u64 n17, D.agg y18, D.int .i64 n19, D.agg [D.int .i64 n20, D.int .i64 n21, D.bool b22], D.slice c23 l24]))), some (.box 62 (.d 62 (D.agg [D.int .u64 n25, D.bool b26, D.int .i64 n27, D.int .u64 n28, D.agg y29, D.int .i64 n30, D.agg [D.int .i64 n31, D.int .i64 n32, D.bool b33], D.slice c34 l35])))]⟩) else (lab (todoAt (Γ mx) 62 8) ⟨[(0, .sl 93 .any l1), (3, .ptr 0 [] 53), (5, .snil), (6, .ptr 1 [] 62), (8, .ptr 2 [] 62), (9, .i .i64 n2), (10, .b b3), (24, .sl 62 c4 l5), (25, .i .i64 n6), (26, .i .i64 n7), (37, .sl 93 .any l8), (38, .i .i64 n9), (39, .i .i64 (IntKind.wrap .i64 (n10 + 1)))], [some (.box 53 (.d 53 (D.agg [D.str s11, D.slice c12 l13]))), some (.box 62 (.d 62 (D.agg [D.int .u64 n14, D.bool b15, D.int .i64 n16, D.int .u64 n17, D.agg y18, D.int .i64 n19, D.agg [D.int .i64 n20, D.int .i64 n21, D.bool b22], D.slice c23 l24]))), some (.box 62 (.d 62 (D.agg [D.int .u64 n25, D.bool b26, D.int .i64 n27, D.int .u64 n28, D.agg y29, D.int .i64 n30, D.agg [D.int .i64 n31, D.int .i64 n32, D.bool b33], D.slice c34 l35])))]⟩)) else (lab (todoAt (Γ mx) 62 8) ⟨[(0, .sl 93 .any l1), (3, .ptr 0 [] 53), (5, .snil), (6, .ptr 1 [] 62), (8, .ptr 2 [] 62), (9, .i .i64 n2), (10, .b b3), (24, .sl 62 c4 l5), (25, .i .i64 n6), (26, .i .i64 n7), (37, .sl 93 .any l8), (38, .i .i64 n9), (39, .i .i64 (IntKind.wrap .i64 (n10 + 1)))], [some (.box 53 (.d 53 (D.agg [D.str s11, D.slice c12 l13]))), some (.box 62 (.d 62 (D.agg [D.int .u64 n14, D.bool b15, D.int .i64 n16, D.int .u64 n17, D.agg y18, D.int .i64 n19, D.agg [D.int .i64 n20, D.int .i64 n21, D.bool b22], D.slice c23 l24]))), some (.box 62 (.d 62 (D.agg [D.int .u64 n25, D.bool b26, D.int .i64 n27, D.int .u64 n28, D.agg y29, D.int .i64 n30, D.agg [D.int .i64 n31, D.int .i64 n32, D.bool b33], D.slice c34 l35])))]⟩)) else (lab (todoAt (Γ mx) 62 8) ⟨[(0, .sl 93 .any l1), (3, .ptr 0 [] 53), (5, .snil), (6, .ptr 1 [] 62), (8, .ptr 2 [] 62), (9, .i .i64 n2), (10, .b b3), (24, .sl 62 c4 l5), (25, .i .i64 n6), (26, .i .i64 n7), (37, .sl 93 .any l8), (38, .i .i64 n9), (39, .i .i64 (IntKind.wrap .i64 (n10 + 1)))], [some (.box 53 (.d 53 (D.agg [D.str s11, D.slice c12 l13]))), some (.box 62 (.d 62 (D.agg [D.int .u64 n14, D.bool b15, D.int .i64 n16, D.int .u64 n17, D.agg y18, D.int .i64 n19, D.agg [D.int .i64 n20, D.int .i64 n21, D.bool b22], D.slice c23 l24]))), some (.box 62 (.d 62 (D.agg [D.int .u64 n25, D.bool b26, D.int .i64 n27, D.int .u64 n28, D.agg y29, D.int .i64 n30, D.agg [D.int .i64 n31, D.int .i64 n32, D.bool b33], D.slice c34 l35])))]⟩)) else (lab (todoAt (Γ mx) 62 8) ⟨[(0, .sl 93 .any l1), (3, .ptr 0 [] 53), (5, .snil), (6, .ptr 1 [] 62), (8, .ptr 2 [] 62), (9, .i .i64 n2), (10, .b b3), (24, .sl 62 c4 l5), (25, .i .i64 n6), (26, .i .i64 n7), (37, .sl 93 .any l8), (38, .i .i64 n9), (39, .i .i64 (IntKind.wrap .i64 (n10 + 1)))], [some (.box 53 (.d 53 (D.agg [D.str s11, D.slice c12 l13]))), some (.box 62 (.d 62 (D.agg [D.int .u64 n14, D.bool b15, D.int .i64 n16, D.int .u64 n17, D.agg y18, D.int .i64 n19, D.agg [D.int .i64 n20, D.int .i64 n21, D.bool b22], D.slice c23 l24]))), some (.box 62 (.d 62 (D.agg [D.int .u64 n25, D.bool b26, D.int .i64 n27, D.int .u64 n28, D.agg y29, D.int .i64 n30, D.agg [D.int .i64 n31, D.int .i64 n32, D.bool b33], D.slice c34 l35])))]⟩)))) else none)) else (lab (todoAt (Γ mx) 62 4) ⟨[(0, .sl 93 .any l1), (3, .ptr 0 [] 53), (5, .snil), (6, .ptr 1 [] 62), (24, .sl 62 c4 l5), (25, .i .i64 n6), (26, .i .i64 (IntKind.wrap .i64 (n7 + 1)))], [some (.box 53 (.d 53 (D.agg [D.str s11, D.slice c12 l13]))), some (.box 62 (.d 62 (D.agg [D.int .u64 n14, D.bool b15, D.int .i64 n16, D.int .u64 n17, D.agg y18, D.int .i64 n19, D.agg [D.int .i64 n20, D.int .i64 n21, D.bool b22], D.slice c23 l24])))]⟩) := by kernel_rfl
theorem r62_18a (lab : Lab) (l1 : List D) (n2 : Int) (n3 : Int) (s4 : List UInt8) (c5 : Cp) (l6 : List D) (n7 : Int) (b8 : Bool) (n9 : Int) (n10 : Int) (y11 : List D) (n12 : Int) (n13 : Int) (n14 : Int) (b15 : Bool) (c16 : Cp) (l17 : List D) : evL (Γ mx) H62 lab 62 18 ⟨[(3, .ptr 0 [] 53), (5, .snil), (6, .ptr 1 [] 62), (95, .sl 93 .any l1), (96, .i .i64 n2), (97, .i .i64 n3)], [some (.box 53 (.d 53 (D.agg [D.str s4, D.slice c5 l6]))), some (.box 62 (.d 62 (D.agg [D.int .u64 n7, D.bool b8, D.int .i64 n9, D.int .u64 n10, D.agg y11, D.int .i64 n12, D.agg [D.int .i64 n13, D.int .i64 n14, D.bool b15], D.slice c16 l17])))]⟩ =
  bif decide (n3 < n2) then (idx l1 n3 fun y18 => dAgg y18 fun y19 => lCons y19 fun a20 r21 => dStr a20 fun s22 => lCons r21 fun a23 r24 => dSlice a23 fun c25 l26 => lCons r24 fun a27 r28 => dInt .i64 a27 fun n29 => lCons r28 fun a30 r31 => dInt .i64 a30 fun n32 => lCons r31 fun a33 r34 => dBool a33 fun b35 => lNil r34 (bif rC (D.agg [D.str s22, D.slice c25 l26, D.int .i64 n29, D.int .i64 n32, D.bool b35]) && oC (D.agg [D.str s4, D.slice c5 l6]) then (bif meantD (D.agg [D.str s22, D.slice c25 l26, D.int .i64 n29, D.int .i64 n32, D.bool b35]) (D.agg [D.str s4, D.slice c5 l6]) then (bif decide (n29 > 0) then (bif !b8 then (lab (todoAt (Γ mx) 62 18) ⟨[(3, .ptr 0 [] 53), (5, .ref 90 1), (6, .ptr 2 [] 62), (95, .sl 93 .any l1), (96, .i .i64 n2), (97, .i .i64 (IntKind.wrap .i64 (n3 + 1)))], [some (.box 53 (.d 53 (D.agg [D.str s4, D.slice c5 l6]))), some (.arr 90 [D.agg [D.int .i64 (IntKind.wrap .i64 (n12 + (IntKind.wrap .i64 (n29 * 86400)))), D.int .u64 0, D.agg [D.int .i64 0, D.int .i64 0, D.bool false]]] false), some (.box 62 (.d 62 (D.agg [D.int .u64 n7, D.bool b8, D.int .i64 n9, D.int .u64 n10, D.agg y11, D.int .i64 n12, D.agg [D.int .i64 n13, D.int .i64 n14, D.bool b15], D.slice c16 l17])))]⟩) else (lab (todoAt (Γ mx) 62 18) ⟨[(3, .ptr 0 [] 53), (5, .snil), (6, .ptr 1 [] 62), (95, .sl 93 .any l1), (96, .i .i64 n2), (97, .i .i64 (IntKind.wrap .i64 (n3 + 1)))], [some (.box 53 (.d 53 (D.agg [D.str s4, D.slice c5 l6]))), some (.box 62 (.d 62 (D.agg [D.int .u64 n7, D.bool b8, D.int .i64 n9, D.int .u64 n10, D.agg y11, D.int .i64 n12, D.agg [D.int .i64 n13, D.int .i64 n14, D.bool b15], D.slice c16 l17])))]⟩)) else (lab (todoAt (Γ mx) 62 18) ⟨[(3, .ptr 0 [] 53), (5, .snil), (6, .ptr 1 [] 62), (95, .sl 93 .any l1), (96, .i .i64 n2), (97, .i .i64 (IntKind.wrap .i64 (n3 + 1)))], [some (.box 53 (.d 53 (D.agg [D.str s4, D.slice c5 l6]))), some (.box 62 (.d 62 (D.agg [D.int .u64 n7, D.bool b8, D.int .i64 n9, D.int .u64 n10, D.agg y11, D.int .i64 n12, D.agg [D.int .i64 n13, D.int .i64 n14, D.bool b15], D.slice c16 l17])))]⟩)) else (lab (todoAt (Γ mx) 62 18) ⟨[(3, .ptr 0 [] 53), (5, .snil), (6, .ptr 1 [] 62), (95, .sl 93 .any l1), (96, .i .i64 n2), (97, .i .i64 (IntKind.wrap .i64 (n3 + 1)))], [some (.box 53 (.d 53 (D.agg [D.str s4, D.slice c5 l6]))), some (.box 62 (.d 62 (D.agg [D.int .u64 n7, D.bool b8, D.int .i64 n9, D.int .u64 n10, D.agg y11, D.int .i64 n12, D.agg [D.int .i64 n13, D.int .i64 n14, D.bool b15], D.slice c16 l17])))]⟩)) else none)) else (some (.snil, [])) := by kernel_rfl
theorem r62_8b (lab : Lab) (l1 : List D) (n2 : Int) (b3 : Bool) (c4 : Cp) (l5 : List D) (n6 : Int) (n7 : Int) (l8 : List D) (n9 : Int) (n10 : Int) (s11 : List UInt8) (c12 : Cp) (l13 : List D) (l14 : List D) (n15 : Int) (b16 : Bool) (n17 : Int) (n18 : Int) (y19 : List D) (n20 : Int) (n21 : Int) (n22 : Int) (b23 : Bool) (c24 : Cp) (l25 : List D) (n26 : Int) (b27 : Bool) (n28 : Int) (n29 : Int) (y30 : List D) (n31 : Int) (n32 : Int) (n33 : Int) (b34 : Bool) (c35 : Cp) (l36 : List D) : evL (Γ mx) H62 lab 62 8 ⟨[(0, .sl 93 .any l1), (3, .ptr 0 [] 53), (5, .ref 90 1), (6, .ptr 2 [] 62), (8, .ptr 3 [] 62), (9, .i .i64 n2), (10, .b b3), (24, .sl 62 c4 l5), (25, .i .i64 n6), (26, .i .i64 n7), (37, .sl 93 .any l8), (38, .i .i64 n9), (39, .i .i64 n10)], [some (.box 53 (.d 53 (D.agg [D.str s11, D.slice c12 l13]))), some (.arr 90 l14 false), some (.box 62 (.d 62 (D.agg [D.int .u64 n15, D.bool b16, D.int .i64 n17, D.int .u64 n18, D.agg y19, D.int .i64 n20, D.agg [D.int .i64 n21, D.int .i64 n22, D.bool b23], D.slice c24 l25]))), some (.box 62 (.d 62 (D.agg [D.int .u64 n26, D.bool b27, D.int .i64 n28, D.int .u64 n29, D.agg y30, D.int .i64 n31, D.agg [D.int .i64 n32, D.int .i64 n33, D.bool b34], D.slice c35 l36])))]⟩ =
  bif decide (n10 < n9) then (idx l8 n10 fun y37 => dAgg y37 fun y38 => lCons y38 fun a39 r40 => dStr a39 fun s41 => lCons r40 fun a42 r43 => dSlice a42 fun c44 l45 => lCons r43 fun a46 r47 => dInt .i64 a46 fun n48 => lCons r47 fun a49 r50 => dInt .i64 a49 fun n51 => lCons r50 fun a52 r53 => dBool a52 fun b54 => lNil r53 (bif rC (D.agg [D.str s41, D.slice c44 l45, D.int .i64 n48, D.int .i64 n51, D.bool b54]) && oC (D.agg [D.str s11, D.slice c12 l13]) then (bif !(meantD (D.agg [D.str s41, D.slice c44 l45, D.int .i64 n48, D.int .i64 n51, D.bool b54]) (D.agg [D.str s11, D.slice c12 l13])) then (lab (todoAt (Γ mx) 62 8) ⟨[(0, .sl 93 .any l1), (3, .ptr 0 [] 53), (5, .ref 90 1), (6, .ptr 2 [] 62), (8, .ptr 3 [] 62), (9, .i .i64 n2), (10, .b b3), (24, .sl 62 c4 l5), (25, .i .i64 n6), (26, .i .i64 n7), (37, .sl 93 .any l8), (38, .i .i64 n9), (39, .i .i64 (IntKind.wrap .i64 (n10 + 1)))], [some (.box 53 (.d 53 (D.agg [D.str s11, D.slice c12 l13]))), some (.arr 90 l14 false), some (.box 62 (.d 62 (D.agg [D.int .u64 n15, D.bool b16, D.int .i64 n17, D.int .u64 n18, D.agg y19, D.int .i64 n20, D.agg [D.int .i64 n21, D.int .i64 n22, D.bool b23], D.slice c24 l25]))), some (.box 62 (.d 62 (D.agg [D.int .u64 n26, D.bool b27, D.int .i64 n28, D.int .u64 n29, D.agg y30, D.int .i64 n31, D.agg [D.int .i64 n32, D.int .i64 n33, D.bool b34], D.slice c35 l36])))]⟩) else (bif b3 then (bif decide (n51 > 0) then (bif roomB (l14.length + 1) 40 then (lab (todoAt (Γ mx) 62 8) ⟨[(0, .sl 93 .any l1), (3, .ptr 0 [] 53), (5, .ref 90 1), (6, .ptr 2 [] 62), (8, .ptr 3 [] 62), (9, .i .i64 n2), (10, .b b3), (24, .sl 62 c4 l5), (25, .i .i64 n6), (26, .i .i64 n7), (37, .sl 93 .any l8), (38, .i .i64 n9), (39, .i .i64 (IntKind.wrap .i64 (n10 + 1)))], [some (.box 53 (.d 53 (D.agg [D.str s11, D.slice c12 l13]))), some (.arr 90 (l14 ++ [D.agg [D.int .i64 (IntKind.wrap .i64 (n2 + (IntKind.wrap .i64 (n51 * 86400)))), D.int .u64 n26, D.agg [D.int .i64 n32, D.int .i64 n33, D.bool b34]]]) false), some (.box 62 (.d 62 (D.agg [D.int .u64 n15, D.bool b16, D.int .i64 n17, D.int .u64 n18, D.agg y19, D.int .i64 n20, D.agg [D.int .i64 n21, D.int .i64 n22, D.bool b23], D.slice c24 l25]))), some (.box 62 (.d 62 (D.agg [D.int .u64 n26, D.bool b27, D.int .i64 n28, D.int .u64 n29, D.agg y30, D.int .i64 n31, D.agg [D.int .i64 n32, D.int .i64 n33, D.bool b34], D.slice c35 l36])))]⟩) else none) else (bif !b3 then (bif b27 then (bif b54 then (bif ((l13.length : Int)) == 1 then (bif roomB (l14.length + 1) 40 then (lab (todoAt (Γ mx) 62 8) ⟨[(0, .sl 93 .any l1), (3, .ptr 0 [] 53), (5, .ref 90 1), (6, .ptr 2 [] 62), (8, .ptr 3 [] 62), (9, .i .i64 n2), (10, .b b3), (24, .sl 62 c4 l5), (25, .i .i64 n6), (26, .i .i64 n7), (37, .sl 93 .any l8), (38, .i .i64 n9), (39, .i .i64 (IntKind.wrap .i64 (n10 + 1)))], [some (.box 53 (.d 53 (D.agg [D.str s11, D.slice c12 l13]))), some (.arr 90 (l14 ++ [D.agg [D.int .i64 (-62135596800), D.int .u64 n26, D.agg [D.int .i64 n32, D.int .i64 n33, D.bool b34]]]) false), some (.box 62 (.d 62 (D.agg [D.int .u64 n15, D.bool b16, D.int .i64 n17, D.int .u64 n18, D.agg y19, D.int .i64 n20, D.agg [D.int .i64 n21, D.int .i64 n22, D.bool b23], D.slice c24 l25]))), some (.box 62 (.d 62 (D.agg [D.int .u64 n26, D.bool b27, D.int .i64 n28, D.int .u64 n29, D.agg y30, D.int .i64 n31, D.agg [D.int .i64 n32, D.int .i64 n33, D.bool b34], D.slice c35 l36])))]⟩) else none) else (lab (todoAt (Γ mx) 62 8) ⟨[(0, .sl 93 .any l1), (3, .ptr 0 [] 53), (5, .ref 90 1), (6, .ptr 2 [] 62), (8, .ptr 3 [] 62), (9, .i .i64 n2), (10, .b b3), (24, .sl 62 c4 l5), (25, .i .i64 n6), (26, .i .i64 n7), (37, .sl 93 .any l8), (38, .i .i64 n9), (39, .i .i64 (IntKind.wrap .i64 (n10 + 1)))], [some (.box 53 (.d 53 (D.agg [D.str s11, D.slice c12 l13]))), some (.arr 90 l14 false), some (.box 62 (.d 62 (D.agg [D.int .u64 n15, D.bool b16, D.int .i64 n17, D.int .u64 n18, D.agg y19, D.int .i64 n20, D.agg [D.int .i64 n21, D.int .i64 n22, D.bool b23], D.slice c24 l25]))), some (.box 62 (.d 62 (D.agg [D.int .u64 n26, D.bool b27, D.int .i64 n28, D.int .u64 n29, D.agg y30, D.int .i64 n31, D.agg [D.int .i64 n32, D.int .i64 n33, D.bool b34], D.slice c35 l36])))]⟩)) else (lab (todoAt (Γ mx) 62 8) ⟨[(0, .sl 93 .any l1), (3, .ptr 0 [] 53), (5, .ref 90 1), (6, .ptr 2 [] 62), (8, .ptr 3 [] 62), (9, .i .i64 n2), (10, .b b3), (24, .sl 62 c4 l5), (25, .i .i64 n6), (26, .i .i64 n7), (37, .sl 93 .any l8), (38, .i .i64 n9), (39, .i .i64 (IntKind.wrap .i64 (n10 + 1)))], [some (.box 53 (.d 53 (D.agg [D.str s11, D.slice c12 l13]))), some (.arr 90 l14 false), some (.box 62 (.d 62 (D.agg [D.int .u64 n15, D.bool b16, D.int .i64 n17, D.int .u64 n18, D.agg y19, D.int .i64 n20, D.agg [D.int .i64 n21, D.int .i64 n22, D.bool b23], D.slice c24 l25]))), some (.box 62 (.d 62 (D.agg [D.int .u64 n26, D.bool b27, D.int .i64 n28, D.int .u64 n29, D.agg y30, D.int .i64 n31, D.agg [D.int .i64 n32, D.int .i64 n33, D.bool b34], D.slice c35 l36])))]⟩)) else (lab (todoAt (Γ mx) 62 8) ⟨[(0, .sl 93 .any l1), (3, .ptr 0 [] 53), (5, .ref 90 1), (6, .ptr 2 [] 62), (8, .ptr 3 [] 62), (9, .i .i64 n2), (10, .b b3), (24, .sl 62 c4 l5), (25, .i .i64 n6), (26, .i .i64 n7), (37, .sl 93 .any l8), (38, .i .i64 n9), (39, .i .i64 (IntKind.wrap .i64 (n10 + 1)))], [some (.box 53 (.d 53 (D.agg [D.str s11, D.slice c12 l13]))), some (.arr 90 l14 false), some (.box 62 (.d 62 (D.agg [D.int .u64 n15, D.bool b16, D.int .i64 n17, D.int .u64 n18, D.agg y19, D.int .i64 n20, D.agg [D.int .i64 n21, D.int .i64 n22, D.bool b23], D.slice c24 l25]))), some (.box 62 (.d 62 (D.agg [D.int .u64 n26, D.bool b27, D.int .i64 n28, D.int .u64 n29, D.agg y30, D.int .i64 n31, D.agg [D.int .i64 n32, D.int .i64 n33, D.bool b34], D.slice c35 l36])))]⟩)) else (lab (todoAt (Γ mx) 62 8) ⟨[(0, .sl 93 .any l1), (3, .ptr 0 [] 53), (5, .ref 90 1), (6, .ptr 2 [] 62), (8, .ptr 3 [] 62), (9, .i .i64 n2), (10, .b b3), (24, .sl 62 c4 l5), (25, .i .i64 n6), (26, .i .i64 n7), (37, .sl 93 .any l8), (38, .i .i64 n9), (39, .i .i64 (IntKind.wrap .i64 (n10 + 1)))], [some (.box 53 (.d 53 (D.agg [D.str s11, D.slice c12 l13]))), some (.arr 90 l14 false), some (.box 62 (.d 62 (D.agg [D.int .u64 n15, D.bool b16, D.int .i64 n17, D.int .u64 n18, D.agg y19, D.int .i64 n20, D.agg [D.int .i64 n21, D.int .i64 n22, D.bool b23], D.slice c24 l25]))), some (.box 62 (.d 62 (D.agg [D.int .u64 n26, D.bool b27, D.int .i64 n28, D.int .u64 n29, D.agg y30, D.int .i64 n31, D.agg [D.int .i64 n32, D.int .i64 n33, D.bool b34], D.slice c35 l36])))]⟩))) else (bif !b3 then (bif b27 then (bif b54 then (bif ((l13.length : Int)) == 1 then (bif roomB (l14.length + 1) 40 then (lab (todoAt (Γ mx) 62 8) ⟨[(0, .sl 93 .any l1), (3, .ptr 0 [] 53), (5, .ref 90 1), (6, .ptr 2 [] 62), (8, .ptr 3 [] 62), (9, .i .i64 n2), (10, .b b3), (24, .sl 62 c4 l5), (25, .i .i64 n6), (26, .i .i64 n7), (37, .sl 93 .any l8), (38, .i .i64 n9), (39, .i .i64 (IntKind.wrap .i64 (n10 + 1)))], [some (.box 53 (.d 53 (D.agg [D.str s11, D.slice c12 l13]))), some (.arr 90 (l14 ++ [D.agg [D.int .i64 (-62135596800), D.int .u64 n26, D.agg [D.int .i64 n32, D.int .i64 n33, D.bool b34]]]) false), some (.box 62 (.d 62 (D.agg [D.int .u64 n15, D.bool b16, D.int .i64 n17, D.int .u64 n18, D.agg y19, D.int .i64 n20, D.agg [D.int .i64 n21, D.int .i64 n22, D.bool b23], D.slice c24 l25]))), some (.box 62 (.d 62 (D.agg [D.int .u64 n26, D.bool b27, D.int .i64 n28, D.int .u64 n29, D.agg y30, D.int .i64 n31, D.agg [D.int .i64 n32, D.int .i64 n33, D.bool b34], D.slice c35 l36])))]⟩) else none) else (lab (todoAt (Γ mx) 62 8) ⟨[(0, .sl 93 .any l1), (3, .ptr 0 [] 53), (5, .ref 90 1), (6, .ptr 2 [] 62), (8, .ptr 3 [] 62), (9, .i .i64 n2), (10, .b b3), (24, .sl 62 c4 l5), (25, .i .i64 n6), (26, .i .i64 n7), (37, .sl 93 .any l8), (38, .i .i64 n9), (39, .i .i64 (IntKind.wrap .i64 (n10 + 1)))], [some (.box 53 (.d 53 (D.agg [D.str s11, D.slice c12 l13]))), some (.arr 90 l14 false), some (.box 62 (.d 62 (D.agg [D.int .u64 n15, D.bool b16, D.int .i64 n17, D.int .u64 n18, D.agg y19, D.int .i64 n20, D.agg [D.int .i64 n21, D.int .i64 n22, D.bool b23], D.slice c24 l25]))), some (.box 62 (.d 62 (D.agg [D.int .u64 n26, D.bool b27, D.int .i64 n28, D.int .u64 n29, D.agg y30, D.int .i64 n31, D.agg [D.int .i64 n32, D.int .i64 n33, D.bool b34], D.slice c35 l36])))]⟩)) else (lab (todoAt (Γ mx) 62 8) ⟨[(0, .sl 93 .any l1), (3, .ptr 0 [] 53), (5, .ref 90 1), (6, .ptr 2 [] 62), (8, .ptr 3 [] 62), (9, .i .i64 n2), (10, .b b3), (24, .sl 62 c4 l5), (25, .i .i64 n6), (26, .i .i64 n7), (37, .sl 93 .any l8), (38, .i .i64 n9), (39, .i .i64 (IntKind.wrap .i64 (n10 + 1)))], [some (.box 53 (.d 53 (D.agg [D.str s11, D.slice c12 l13]))), some (.arr 90 l14 false), some (.box 62 (.d 62 (D.agg [D.int .u64 n15, D.bool b16, D.int .i64 n17, D.int .u64 n18, D.agg y19, D.int .i64 n20, D.agg [D.int .i64 n21, D.int .i64 n22, D.bool b23], D.slice c24 l25]))), some (.box 62 (.d 62 (D.agg [D.int .u64 n26, D.bool b27, D.int .i64 n28, D.int .u64 n29, D.agg y30, D.int .i64 n31, D.agg [D.int .i64 n32, D.int .i64 n33, D.bool b34], D.slice c35 l36])))]⟩)) else (lab (todoAt (Γ mx) 62 8) ⟨[(0, .sl 93 .any l1), (3, .ptr 0 [] 53), (5, .ref 90 1), (6, .ptr 2 [] 62), (8, .ptr 3 [] 62), (9, .i .i64 n2), (10, .b b3), (24, .sl 62 c4 l5), (25, .i .i64 n6), (26, .i .i64 n7), (37, .sl 93 .any l8), (38, .i .i64 n9), (39, .i .i64 (IntKind.wrap .i64 (n10 + 1)))], [some (.box 53 (.d 53 (D.agg [D.str s11, D.slice c12 l13]))), some (.arr 90 l14 false), some (.box 62 (.d 62 (D.agg [D.int .u64 n15, D.bool b16, D.int .i64 n17, D.int .u64 n18, D.agg y19, D.int .i64 n20, D.agg [D.int .i64 n21, D.int .i64 n22, D.bool b23], D.slice c24 l25]))), some (.box 62 (.d 62 (D.agg [D.int .u64 n26, D.bool b27, D.int .i64 n28, D.int .u64 n29, D.agg y30, D.int .i64 n31, D.agg [D.int .i64 n32, D.int .i64 n33, D.bool b34], D.slice c35 l36])))]⟩)) else (lab (todoAt (Γ mx) 62 8) ⟨[(0, .sl 93 .any l1), (3, .ptr 0 [] 53), (5, .ref 90 1), (6, .ptr 2 [] 62), (8, .ptr 3 [] 62), (9, .i .i64 n2), (10, .b b3), (24, .sl 62 c4 l5), (25, .i .i64 n6), (26, .i .i64 n7), (37, .sl 93 .any l8), (38, .i .i64 n9), (39, .i .i64 (IntKind.wrap .i64 (n10 + 1)))], [some (.box 53 (.d 53 (D.agg [D.str s11, D.slice c12 l13]))), some (.arr 90 l14 false), some (.box 62 (.d 62 (D.agg [D.int .u64 n15, D.bool b16, D.int .i64 n17, D.int .u64 n18, D.agg y19, D.int .i64 n20, D.agg [D.int .i64 n21, D.int .i64 n22, D.bool b23], D.slice c24 l25]))), some (.box 62 (.d 62 (D.agg [D.int .u64 n26, D.bool b27, D.int .i64 n28, D.int .u64 n29, D.agg y30, D.int .i64 n31, D.agg [D.int .i64 n32, D.int .i64 n33, D.bool b34], D.slice c35 l36])))]⟩)))) else none)) else (lab (todoAt (Γ mx) 62 4) ⟨[(0, .sl 93 .any l1), (3, .ptr 0 [] 53), (5, .ref 90 1), (6, .ptr 2 [] 62), (24, .sl 62 c4 l5), (25, .i .i64 n6), (26, .i .i64 (IntKind.wrap .i64 (n7 + 1)))], [some (.box 53 (.d 53 (D.agg [D.str s11, D.slice c12 l13]))), some (.arr 90 l14 false), some (.box 62 (.d 62 (D.agg [D.int .u64 n15, D.bool b16, D.int .i64 n17, D.int .u64 n18, D.agg y19, D.int .i64 n20, D.agg [D.int .i64 n21, D.int .i64 n22, D.bool b23], D.slice c24 l25])))]⟩) := by kernel_rfl
theorem r62_18b (lab : Lab) (l1 : List D) (n2 : Int) (n3 : Int) (s4 : List UInt8) (c5 : Cp) (l6 : List D) (l7 : List D) (n8 : Int) (b9 : Bool) (n10 : Int) (n11 : Int) (y12 : List D) (n13 : Int) (n14 : Int) (n15 : Int) (b16 : Bool) (c17 : Cp) (l18 : List D) : evL (Γ mx) H62 lab 62 18 ⟨[(3, .ptr 0 [] 53), (5, .ref 90 1), (6, .ptr 2 [] 62), (95, .sl 93 .any l1), (96, .i .i64 n2), (97, .i .i64 n3)], [some (.box 53 (.d 53 (D.agg [D.str s4, D.slice c5 l6]))), some (.arr 90 l7 false), some (.box 62 (.d 62 (D.agg [D.int .u64 n8, D.bool b9, D.int .i64 n10, D.int .u64 n11, D.agg y12, D.int .i64 n13, D.agg [D.int .i64 n14, D.int .i64 n15, D.bool b16], D.slice c17 l18])))]⟩ =
  bif decide (n3 < n2) then (idx l1 n3 fun y19 => dAgg y19 fun y20 => lCons y20 fun a21 r22 => dStr a21 fun s23 => lCons r22 fun a24 r25 => dSlice a24 fun c26 l27 => lCons r25 fun a28 r29 => dInt .i64 a28 fun n30 => lCons r29 fun a31 r32 => dInt .i64 a31 fun n33 => lCons r32 fun a34 r35 => dBool a34 fun b36 => lNil r35 (bif rC (D.agg [D.str s23, D.slice c26 l27, D.int .i64 n30, D.int .i64 n33, D.bool b36]) && oC (D.agg [D.str s4, D.slice c5 l6]) then (bif meantD (D.agg [D.str s23, D.slice c26 l27, D.int .i64 n30, D.int .i64 n33, D.bool b36]) (D.agg [D.str s4, D.slice c5 l6]) then (bif decide (n30 > 0) then (bif !b9 then (bif roomB (l7.length + 1) 40 then (lab (todoAt (Γ mx) 62 18) ⟨[(3, .ptr 0 [] 53), (5, .ref 90 1), (6, .ptr 2 [] 62), (95, .sl 93 .any l1), (96, .i .i64 n2), (97, .i .i64 (IntKind.wrap .i64 (n3 + 1)))], [some (.box 53 (.d 53 (D.agg [D.str s4, D.slice c5 l6]))), some (.arr 90 (l7 ++ [D.agg [D.int .i64 (IntKind.wrap .i64 (n13 + (IntKind.wrap .i64 (n30 * 86400)))), D.int .u64 0, D.agg [D.int .i64 0, D.int .i64 0, D.bool false]]]) false), some (.box 62 (.d 62 (D.agg [D.int .u64 n8, D.bool b9, D.int .i64 n10, D.int .u64 n11, D.agg y12, D.int .i64 n13, D.agg [D.int .i64 n14, D.int .i64 n15, D.bool b16], D.slice c17 l18])))]⟩) else none) else (lab (todoAt (Γ mx) 62 18) ⟨[(3, .ptr 0 [] 53), (5, .ref 90 1), (6, .ptr 2 [] 62), (95, .sl 93 .any l1), (96, .i .i64 n2), (97, .i .i64 (IntKind.wrap .i64 (n3 + 1)))], [some (.box 53 (.d 53 (D.agg [D.str s4, D.slice c5 l6]))), some (.arr 90 l7 false), some (.box 62 (.d 62 (D.agg [D.int .u64 n8, D.bool b9, D.int .i64 n10, D.int .u64 n11, D.agg y12, D.int .i64 n13, D.agg [D.int .i64 n14, D.int .i64 n15, D.bool b16], D.slice c17 l18])))]⟩)) else (lab (todoAt (Γ mx) 62 18) ⟨[(3, .ptr 0 [] 53), (5, .ref 90 1), (6, .ptr 2 [] 62), (95, .sl 93 .any l1), (96, .i .i64 n2), (97, .i .i64 (IntKind.wrap .i64 (n3 + 1)))], [some (.box 53 (.d 53 (D.agg [D.str s4, D.slice c5 l6]))), some (.arr 90 l7 false), some (.box 62 (.d 62 (D.agg [D.int .u64 n8, D.bool b9, D.int .i64 n10, D.int .u64 n11, D.agg y12, D.int .i64 n13, D.agg [D.int .i64 n14, D.int .i64 n15, D.bool b16], D.slice c17 l18])))]⟩)) else (lab (todoAt (Γ mx) 62 18) ⟨[(3, .ptr 0 [] 53), (5, .ref 90 1), (6, .ptr 2 [] 62), (95, .sl 93 .any l1), (96, .i .i64 n2), (97, .i .i64 (IntKind.wrap .i64 (n3 + 1)))], [some (.box 53 (.d 53 (D.agg [D.str s4, D.slice c5 l6]))), some (.arr 90 l7 false), some (.box 62 (.d 62 (D.agg [D.int .u64 n8, D.bool b9, D.int .i64 n10, D.int .u64 n11, D.agg y12, D.int .i64 n13, D.agg [D.int .i64 n14, D.int .i64 n15, D.bool b16], D.slice c17 l18])))]⟩)) else none)) else (some (.sl 90 .any l7, [])) := by kernel_rfl
theorem r62_4b (lab : Lab) (l1 : List D) (c2 : Cp) (l3 : List D) (n4 : Int) (n5 : Int) (s6 : List UInt8) (c7 : Cp) (l8 : List D) (l9 : List D) (n10 : Int) (b11 : Bool) (n12 : Int) (n13 : Int) (y14 : List D) (n15 : Int) (n16 : Int) (n17 : Int) (b18 : Bool) (c19 : Cp) (l20 : List D) : evL (Γ mx) H62 lab 62 4 ⟨[(0, .sl 93 .any l1), (3, .ptr 0 [] 53), (5, .ref 90 1), (6, .ptr 2 [] 62), (24, .sl 62 c2 l3), (25, .i .i64 n4), (26, .i .i64 n5)], [some (.box 53 (.d 53 (D.agg [D.str s6, D.slice c7 l8]))), some (.arr 90 l9 false), some (.box 62 (.d 62 (D.agg [D.int .u64 n10, D.bool b11, D.int .i64 n12, D.int .u64 n13, D.agg y14, D.int .i64 n15, D.agg [D.int .i64 n16, D.int .i64 n17, D.bool b18], D.slice c19 l20])))]⟩ =
  bif decide (n5 < n4) then (idx l3 n5 fun y21 => dAgg y21 fun y22 => lCons y22 fun a23 r24 => dInt .u64 a23 fun n25 => lCons r24 fun a26 r27 => dBool a26 fun b28 => lCons r27 fun a29 r30 => dInt .i64 a29 fun n31 => lCons r30 fun a32 r33 => dInt .u64 a32 fun n34 => lCons r33 fun a35 r36 => dAgg a35 fun y37 => lCons r36 fun a38 r39 => dInt .i64 a38 fun n40 => lCons r39 fun a41 r42 => dAgg a41 fun y43 => lCons y43 fun a44 r45 => dInt .i64 a44 fun n46 => lCons r45 fun a47 r48 => dInt .i64 a47 fun n49 => lCons r48 fun a50 r51 => dBool a50 fun b52 => lNil r51 (lCons r42 fun a53 r54 => dSlice a53 fun c55 l56 => lNil r54 (bif oC (D.agg [D.str s6, D.slice c7 l8]) then (lab (todoAt (Γ mx) 62 8) ⟨[(0, .sl 93 .any l1), (3, .ptr 0 [] 53), (5, .ref 90 1), (6, .ptr 2 [] 62), (8, .ptr 3 [] 62), (9, .i .i64 (replT (D.agg [D.str s6, D.slice c7 l8]) n25)), (10, .b (replB (D.agg [D.str s6, D.slice c7 l8]) n25)), (24, .sl 62 c2 l3), (25, .i .i64 n4), (26, .i .i64 n5), (37, .sl 93 .any l1), (38, .i .i64 ((l1.length : Int))), (39, .i .i64 0)], [some (.box 53 (.d 53 (D.agg [D.str s6, D.slice c7 l8]))), some (.arr 90 l9 false), some (.box 62 (.d 62 (D.agg [D.int .u64 n10, D.bool b11, D.int .i64 n12, D.int .u64 n13, D.agg y14, D.int .i64 n15, D.agg [D.int .i64 n16, D.int .i64 n17, D.bool b18], D.slice c19 l20]))), some (.box 62 (.d 62 (D.agg [D.int .u64 n25, D.bool b28, D.int .i64 n31, D.int .u64 n34, D.agg y37, D.int .i64 n40, D.agg [D.int .i64 n46, D.int .i64 n49, D.bool b52], D.slice c55 l56])))]⟩) else none))) else (lab (todoAt (Γ mx) 62 18) ⟨[(3, .ptr 0 [] 53), (5, .ref 90 1), (6, .ptr 2 [] 62), (95, .sl 93 .any l1), (96, .i .i64 ((l1.length : Int))), (97, .i .i64 0)], [some (.box 53 (.d 53 (D.agg [D.str s6, D.slice c7 l8]))), some (.arr 90 l9 false), some (.box 62 (.d 62 (D.agg [D.int .u64 n10, D.bool b11, D.int .i64 n12, D.int .u64 n13, D.agg y14, D.int .i64 n15, D.agg [D.int .i64 n16, D.int .i64 n17, D.bool b18], D.slice c19 l20])))]⟩) := by kernel_rfl
def H36 : Handle := runS [⟨61, dat (spLD 93 53 (fun l o => rsC l && oC o) fun l o => .b (goodB l o))⟩, ⟨62, dat (spLD 93 53 (fun l o => rsC l && (oC o && goodB l o)) fun l o => .sl 90 .any (evsL l o))⟩, ⟨63, dat (spDt 60 isLk fun l t => .b (heldD l t))⟩]
theorem r36 (lab : Lab) (l : List D) (ok : List UInt8) (oc : Cp) (ov : List D) (t : Int) : evF (Γ mx) H36 lab 36 [.sl 93 .any l, .d 53 (D.agg [D.str ok, D.slice oc ov]), .i .i64 t] [] =
  bif rsC l && oC (D.agg [D.str ok, D.slice oc ov]) then (bif !(goodB l (D.agg [D.str ok, D.slice oc ov])) then (some (.tuple [.i .u64 0, .b false, .i .i64 2], [])) else (bif rsC l && (oC (D.agg [D.str ok, D.slice oc ov]) && goodB l (D.agg [D.str ok, D.slice oc ov])) then (lab (todoAt (Γ mx) 36 4) ⟨[(2, .i .i64 t), (17, .sl 90 .any (evsL l (D.agg [D.str ok, D.slice oc ov]))), (18, .i .i64 (((evsL l (D.agg [D.str ok, D.slice oc ov])).length : Int))), (19, .i .i64 0)], []⟩) else none)) else none := by kernel_rfl
theorem r36_4a (lab : Lab) (n1 : Int) (l2 : List D) (n3 : Int) (n4 : Int) : evL (Γ mx) H36 lab 36 4 ⟨[(2, .i .i64 n1), (17, .sl 90 .any l2), (18, .i .i64 n3), (19, .i .i64 n4)], []⟩ =
  bif decide (n4 < n3) then (idx l2 n4 fun y5 => dAgg y5 fun y6 => lCons y6 fun a7 r8 => dInt .i64 a7 fun n9 => lCons r8 fun a10 r11 => dInt .u64 a10 fun n12 => lCons r11 fun a13 r14 => dAgg a13 fun y15 => lCons y15 fun a16 r17 => dInt .i64 a16 fun n18 => lCons r17 fun a19 r20 => dInt .i64 a19 fun n21 => lCons r20 fun a22 r23 => dBool a22 fun b24 => lNil r23 (lNil r14 (bif decide (n1 < n9) then (lab (todoAt (Γ mx) 36 4) ⟨[(2, .i .i64 n1), (17, .sl 90 .any l2), (18, .i .i64 n3), (19, .i .i64 (IntKind.wrap .i64 (n4 + 1)))], []⟩) else (bif isLk (D.agg [D.int .i64 n18, D.int .i64 n21, D.bool b24]) then (bif heldD (D.agg [D.int .i64 n18, D.int .i64 n21, D.bool b24]) n1 then (lab (todoAt (Γ mx) 36 4) ⟨[(2, .i .i64 n1), (17, .sl 90 .any l2), (18, .i .i64 n3), (19, .i .i64 (IntKind.wrap .i64 (n4 + 1)))], []⟩) else (some (.tuple [.i .u64 n12, .b (n12 == 0), .i .i64 0], []))) else none)))) else (some (.tuple [.i .u64 0, .b false, .i .i64 0], [])) := by kernel_rfl
def H11 : Handle := runS [⟨36, dat (spLDt 93 53 (fun l o => rsC l && oC o) fun l o t => .tuple [.i .u64 (dueI l o t), .b (dueM l o t), .i .i64 (dueE l o)])⟩, ⟨37, dat (sp0 true (.b true))⟩]
theorem r11 (lab : Lab) (l : List D) (ok : List UInt8) (oc : Cp) (ov : List D) (t : Int) (u : Int) : evF (Γ mx) H11 lab 11 [.sl 93 .any l, .d 53 (D.agg [D.str ok, D.slice oc ov]), .i .i64 t, .i .i64 u] [] =
  bif rsC l && oC (D.agg [D.str ok, D.slice oc ov]) then (bif rsC l && oC (D.agg [D.str ok, D.slice oc ov]) then (bif (dueE l (D.agg [D.str ok, D.slice oc ov])) != 0 then (some (.b ((dueE l (D.agg [D.str ok, D.slice oc ov])) == (dueE l (D.agg [D.str ok, D.slice oc ov]))), [])) else (bif (dueE l (D.agg [D.str ok, D.slice oc ov])) != 0 then (some (.b ((dueE l (D.agg [D.str ok, D.slice oc ov])) == (dueE l (D.agg [D.str ok, D.slice oc ov]))), [])) else (bif decide (u < t) then (some (.b ((dueE l (D.agg [D.str ok, D.slice oc ov])) == (dueE l (D.agg [D.str ok, D.slice oc ov]))), [])) else (lab (todoAt (Γ mx) 11 6) ⟨[(2, .i .i64 t), (5, .ptr 0 [] 53), (9, .i .u64 (dueI l (D.agg [D.str ok, D.slice oc ov]) t)), (10, .b (dueM l (D.agg [D.str ok, D.slice oc ov]) t)), (12, .i .u64 (dueI l (D.agg [D.str ok, D.slice oc ov]) u)), (13, .b (dueM l (D.agg [D.str ok, D.slice oc ov]) u)), (15, .i .i64 0)], [some (.box 53 (.d 53 (D.agg [D.str ok, D.slice oc ov])))]⟩)))) else none) else none := by kernel_rfl
theorem r11_6a (lab : Lab) (n1 : Int) (n2 : Int) (b3 : Bool) (n4 : Int) (b5 : Bool) (n6 : Int) (s7 : List UInt8) (c8 : Cp) (l9 : List D) : evL (Γ mx) H11 lab 11 6 ⟨[(2, .i .i64 n1), (5, .ptr 0 [] 53), (9, .i .u64 n2), (10, .b b3), (12, .i .u64 n4), (13, .b b5), (15, .i .i64 n6)], [some (.box 53 (.d 53 (D.agg [D.str s7, D.slice c8 l9])))]⟩ =
  bif decide (n6 < ((l9.length : Int))) then (idx l9 n6 fun y10 => dAgg y10 fun y11 => lCons y11 fun a12 r13 => dInt .u64 a12 fun n14 => lCons r13 fun a15 r16 => dBool a15 fun b17 => lCons r16 fun a18 r19 => dInt .i64 a18 fun n20 => lCons r19 fun a21 r22 => dInt .u64 a21 fun n23 => lCons r22 fun a24 r25 => dAgg a24 fun y26 => lCons r25 fun a27 r28 => dInt .i64 a27 fun n29 => lCons r28 fun a30 r31 => dAgg a30 fun y32 => lCons y32 fun a33 r34 => dInt .i64 a33 fun n35 => lCons r34 fun a36 r37 => dInt .i64 a36 fun n38 => lCons r37 fun a39 r40 => dBool a39 fun b41 => lNil r40 (lCons r31 fun a42 r43 => dSlice a42 fun c44 l45 => lNil r43 (bif n14 == n2 then (bif b41 then (some (.b false, [])) else (bif n35 != 0 then (bif decide (n1 < n38) then (some (.b false, [])) else (lab (todoAt (Γ mx) 11 6) ⟨[(2, .i .i64 n1), (5, .ptr 0 [] 53), (9, .i .u64 n2), (10, .b b3), (12, .i .u64 n4), (13, .b b5), (15, .i .i64 (IntKind.wrap .i64 (n6 + 1)))], [some (.box 53 (.d 53 (D.agg [D.str s7, D.slice c8 l9])))]⟩)) else (lab (todoAt (Γ mx) 11 6) ⟨[(2, .i .i64 n1), (5, .ptr 0 [] 53), (9, .i .u64 n2), (10, .b b3), (12, .i .u64 n4), (13, .b b5), (15, .i .i64 (IntKind.wrap .i64 (n6 + 1)))], [some (.box 53 (.d 53 (D.agg [D.str s7, D.slice c8 l9])))]⟩))) else (lab (todoAt (Γ mx) 11 6) ⟨[(2, .i .i64 n1), (5, .ptr 0 [] 53), (9, .i .u64 n2), (10, .b b3), (12, .i .u64 n4), (13, .b b5), (15, .i .i64 (IntKind.wrap .i64 (n6 + 1)))], [some (.box 53 (.d 53 (D.agg [D.str s7, D.slice c8 l9])))]⟩)))) else (bif n2 != 0 then (bif n4 != 0 then (some (.b (decide (n4 ≤ n2)), [])) else (some (.b false, []))) else (bif !b3 then (some (.b true, [])) else (bif b5 then (some (.b true, [])) else (some (.b (n4 != 0), []))))) := by kernel_rfl
end Go.Proofs.YtjbemleloffafaaDoor.V

/- Rules: contracts: holds, versions, keys, rules' form. -/
namespace Go.Proofs.YtjbemleloffafaaDoor.V
open Go
set_option maxRecDepth 100000
set_option linter.unusedVariables false
set_option linter.unusedSimpArgs false
section
variable {Γ : Ctx} {g : FuncId}
theorem spDt_ok {u : TypeId} {c : D → Bool} {f : D → Int → AV} (h : ∀ x n, c x = true → RetX Γ g [.d u x, .i .i64 n] [] (f x n) []) : SpecOK Γ ⟨g, dat (spDt u c f)⟩ := dat_ok fun args r hr => by
  unfold spDt at hr
  split at hr
  · simp only [Option.some.injEq, Prod.mk.injEq, Bool.and_eq_true] at hr
    obtain ⟨⟨h1, h2⟩, rfl⟩ := hr
    obtain rfl := beq_id h1
    exact h _ _ h2
  · exact absurd hr (by simp)
theorem spDu_ok {u : TypeId} {c : D → Bool} {f : D → Int → AV} (h : ∀ x n, c x = true → RetX Γ g [.d u x, .i .u64 n] [] (f x n) []) : SpecOK Γ ⟨g, dat (spDu u c f)⟩ := dat_ok fun args r hr => by
  unfold spDu at hr
  split at hr
  · simp only [Option.some.injEq, Prod.mk.injEq, Bool.and_eq_true] at hr
    obtain ⟨⟨h1, h2⟩, rfl⟩ := hr
    obtain rfl := beq_id h1
    exact h _ _ h2
  · exact absurd hr (by simp)
theorem spClamp_ok (h : ∀ n, RetX Γ g [.i .i64 n] [] (.i .i64 (clampZ n)) []) : SpecOK Γ ⟨g, dat spClamp⟩ := dat_ok fun args r hr => by
  unfold spClamp at hr
  split at hr
  · simp only [Option.some.injEq, Prod.mk.injEq] at hr
    obtain ⟨h1, rfl⟩ := hr
    exact h _
  · exact absurd hr (by simp)
theorem spLD_ok {u v : TypeId} {c : List D → D → Bool} {f : List D → D → AV} (h : ∀ l x, c l x = true → RetX Γ g [.sl u .any l, .d v x] [] (f l x) []) : SpecOK Γ ⟨g, dat (spLD u v c f)⟩ := dat_ok fun args r hr => by
  unfold spLD at hr
  split at hr
  · simp only [Option.some.injEq, Prod.mk.injEq, Bool.and_eq_true] at hr
    obtain ⟨⟨h1, h2, h3⟩, rfl⟩ := hr
    obtain rfl := beq_id h1
    obtain rfl := beq_id h2
    exact (h _ _ h3).anyc
  · exact absurd hr (by simp)
theorem spLDt_ok {u v : TypeId} {c : List D → D → Bool} {f : List D → D → Int → AV} (h : ∀ l x n, c l x = true → RetX Γ g [.sl u .any l, .d v x, .i .i64 n] [] (f l x n) []) : SpecOK Γ ⟨g, dat (spLDt u v c f)⟩ := dat_ok fun args r hr => by
  unfold spLDt at hr
  split at hr
  · simp only [Option.some.injEq, Prod.mk.injEq, Bool.and_eq_true] at hr
    obtain ⟨⟨h1, h2, h3⟩, rfl⟩ := hr
    obtain rfl := beq_id h1
    obtain rfl := beq_id h2
    exact (h _ _ _ h3).anyc
  · exact absurd hr (by simp)
end
variable {mx : Int}
theorem c90 (d : D) (t : Int) (h : isLk d = true) : RetX (Γ mx) 90 [.d 60 d, .i .i64 t] [] (.b (bindsD d t)) [] := by
  obtain ⟨a, b, c, rfl⟩ := isLk_ex h
  refine ret_goes (Γ := Γ mx) hP hZ none_ok (by kernel_rfl) ⟨0, ?_⟩
  rw [r90, bindsD]
  cases a != 0 <;> rfl
theorem h63_ok : CallsOK (Γ mx) H63 := specs_ok (.cons (spDt_ok c90) .nil)
theorem c63 (d : D) (t : Int) (h : isLk d = true) : RetX (Γ mx) 63 [.d 60 d, .i .i64 t] [] (.b (heldD d t)) [] := by
  obtain ⟨a, b, c, rfl⟩ := isLk_ex h
  refine ret_goes (Γ := Γ mx) hP hZ h63_ok (by kernel_rfl) ⟨0, ?_⟩
  rw [r63, heldD]
  cases c <;> rfl
theorem c156 (n : Int) : RetX (Γ mx) 156 [.i .i64 n] [] (.i .i64 (clampZ n)) [] := ret_goes (Γ := Γ mx) hP hZ none_ok (by kernel_rfl) ⟨0, by rw [r156]; rfl⟩
theorem h157_ok : CallsOK (Γ mx) H157 := specs_ok (.cons (spClamp_ok c156) .nil)
theorem c157 (d : D) (h : isLk d = true) : RetX (Γ mx) 157 [.d 60 d] [] (.b (lkB d)) [] := by
  obtain ⟨a, b, c, rfl⟩ := isLk_ex h
  refine ret_goes (Γ := Γ mx) hP hZ h157_ok (by kernel_rfl) ⟨0, ?_⟩
  rw [r157, lkB]
  cases a == 0 <;> cases a == 1 <;> cases a == 2 <;> rfl
theorem h145_ok : CallsOK (Γ mx) H145 := specs_ok (.cons (spClamp_ok c156) (.cons (spD1_ok c157) (.cons (spL1s_ok c26) .nil)))
theorem c145 (d : D) (h : vC d = true) : RetX (Γ mx) 145 [.d 62 d] [] (.b (vGood d)) [] := by
  obtain ⟨v, rfl, ht⟩ := vC_ex h
  refine ret_goes (Γ := Γ mx) hP hZ h145_ok (by kernel_rfl) ⟨0, ?_⟩
  show evF (Γ mx) H145 _ 145 [.d 62 (D.agg [D.int .u64 v.id, D.bool v.mr, D.int .i64 v.sz, D.int .u64 v.bl, D.agg v.dg, D.int .i64 v.cr, D.agg [D.int .i64 v.md, D.int .i64 v.un, D.bool v.ho], D.slice v.c v.tg])] [] = some (AV.b (goodV v), [])
  rw [r145, ht, goodV]
  show (bif v.id == 0 then _ else bif v.cr != clampZ v.cr then _ else bif v.mr then (bif v.sz == 0 then (bif v.bl == 0 then (bif eqD (D.agg v.dg) dg0 then (bif eqD (lkV v) lk0 then _ else _) else _) else _) else _) else (bif decide (v.sz ≥ 0) then (bif decide (v.sz ≤ 16384) then (bif decide (v.bl > 0) then (bif true then (bif lkB (lkV v) then (bif true then _ else _) else _) else _) else _) else _) else _)) = _
  cases v.id == 0 <;> cases v.cr != clampZ v.cr <;> cases v.mr <;> first | rfl | skip
  · cases decide (v.sz ≥ 0) <;> cases decide (v.sz ≤ 16384) <;> cases decide (v.bl > 0) <;> cases lkB (lkV v) <;> rfl
  · cases v.sz == 0 <;> cases v.bl == 0 <;> cases eqD (D.agg v.dg) dg0 <;> cases eqD (lkV v) lk0 <;> rfl
theorem c146 (d e : D) (h : (vC d && vC e) = true) : RetX (Γ mx) 146 [.d 62 d, .d 62 e] [] (.b (behD d e)) [] := by
  simp only [Bool.and_eq_true] at h
  obtain ⟨v, rfl, _⟩ := vC_ex h.1
  obtain ⟨p, rfl, _⟩ := vC_ex h.2
  refine ret_goes (Γ := Γ mx) hP hZ none_ok (by kernel_rfl) ⟨0, ?_⟩
  refine (r146 (mx := mx) (runS []) _ v.id v.mr v.sz v.bl v.dg v.cr v.md v.un v.ho v.c v.tg p.id p.mr p.sz p.bl p.dg p.cr p.md p.un p.ho p.c p.tg).trans ?_
  show _ = some (AV.b (decide (v.id > p.id) && decide (v.cr ≥ p.cr)), [])
  cases decide (v.id > p.id) <;> rfl
theorem h121_ok : CallsOK (Γ mx) H121 := specs_ok (.cons (sp1_ok c82) .nil)
theorem c121 (s : List UInt8) (h : short s = true) : RetX (Γ mx) 121 [.s s] [] (.b (keyB s)) [] := by
  refine ret_goes (Γ := Γ mx) hP hZ h121_ok (by kernel_rfl) ⟨0, ?_⟩
  rw [r121, keyB, h, show decide ((s.length : Int) ≤ 200) = decide (s.length ≤ 200) from i64_le _ 200]
  cases s == [] <;> cases decide (s.length ≤ 200) <;> rfl
theorem h122_ok : CallsOK (Γ mx) H122 := specs_ok (.cons (spD1_ok c145) (.cons (spDD_ok c146) .nil))
def prevO : List D → Option Ver
  | [] => none
  | d :: r => match prevO r with | some x => some x | none => vOf d
theorem prevO_app (p : List D) (v : Ver) : prevO (p ++ [vD v]) = some v := by
  induction p with
  | nil => rfl
  | cons d p ih => rw [List.cons_append, prevO, ih]
theorem g122 (l : List D) (hl : l.length ≤ 8388608) (ha : l.all vC = true) : ∀ (rest : List Ver) (pre : List D) (i : Int), l = pre ++ rest.map vD → i = (pre.length : Int) →
    Goes (Γ mx) H122 122 2 ⟨[(0, .sl 62 .any l), (5, .sl 62 .any l), (6, .i .i64 (l.length : Int)), (7, .i .i64 i)], []⟩ (.b (ris1 (prevO pre) rest), [])
  | [], pre, i, he, hi => by
    subst hi
    refine Goes.step ⟨0, ?_⟩
    rw [r122_2a, decide_eq_false (show ¬ (pre.length : Int) < (l.length : Int) by rw [he]; simp)]
    cases prevO pre <;> rfl
  | v :: r, pre, i, he, hi => by
    subst hi
    have hlen : l.length = pre.length + (r.length + 1) := by rw [he]; simp
    have hs : vC (vD v) = true := List.all_eq_true.1 ha _ (by rw [he]; simp)
    have hid : ∀ {R : Type} (K : D → Option R), idx l (pre.length : Int) K = K (vD v) := fun K => by rw [he]; exact idx_mid pre (r.map vD) _ K
    have hw : IntKind.wrap .i64 ((pre.length : Int) + 1) = (pre.length : Int) + 1 := wrapI (by omega) (by omega)
    obtain ⟨n, hn⟩ := g122 l hl ha r (pre ++ [vD v]) ((pre.length : Int) + 1) (by rw [he]; simp) (by simp)
    rw [prevO_app] at hn
    refine Goes.step ⟨n, ?_⟩
    rw [r122_2a, decide_eq_true (show (pre.length : Int) < (l.length : Int) by omega), cond_true, hid, hw]
    show (bif vC (vD v) then (bif !vGood (vD v) then _ else _) else _) = _
    rw [hs, cond_true, show vGood (vD v) = goodV v from rfl]
    rcases List.eq_nil_or_concat pre with rfl | ⟨q, x, rfl⟩
    · show _ = some (AV.b (goodV v && ris1 (some v) r), [])
      cases goodV v with
      | false => rfl
      | true => exact hn
    · rw [List.concat_eq_append] at *
      have hsp : vC x = true := List.all_eq_true.1 ha x (by rw [he]; simp)
      obtain ⟨p, rfl, _⟩ := vC_ex hsp
      rw [prevO_app]
      have hw2 : IntKind.wrap .i64 (((q ++ [vD p]).length : Int) - 1) = (q.length : Int) := by rw [wrapI (by omega) (by simp at hlen ⊢; omega)]; simp
      have hid2 : ∀ {R : Type} (K : D → Option R), idx l (q.length : Int) K = K (vD p) := fun K => by rw [he, List.append_assoc]; exact idx_mid q _ _ K
      rw [decide_eq_true (show (((q ++ [vD p]).length : Int)) > 0 by simp <;> omega), cond_true, hw2, hid2]
      show _ = some (AV.b (goodV v && (behV v p && ris1 (some v) r)), [])
      cases goodV v with
      | false => rfl
      | true =>
        show (bif vC (vD v) && vC (vD p) then (bif !behV v p then _ else _) else _) = _
        rw [hs, hsp]
        cases behV v p with
        | false => rfl
        | true => exact hn
theorem vsC_eq {l : List D} (h : vsC l = true) : l.length ≤ 8388608 ∧ l.all vC = true := by simpa [vsC] using h
theorem c122 (l : List D) (h : vsC l = true) : RetX (Γ mx) 122 [.sl 62 .any l] [] (.b (risB l)) [] := by
  obtain ⟨h1, h2⟩ := vsC_eq h
  obtain ⟨vs, e1, e2⟩ := vs_ex h2
  obtain ⟨n, hn⟩ := g122 (mx := mx) l h1 h2 vs [] 0 e1 rfl
  refine ret_goes (Γ := Γ mx) hP hZ h122_ok (by kernel_rfl) ⟨n, ?_⟩
  rw [r122, risB, e2]; exact hn
theorem h88_ok : CallsOK (Γ mx) H88 := specs_ok (.cons (sp1_ok c121) (.cons (spL1_ok c122) .nil))
theorem len_pos (n : Nat) : decide ((n : Int) > 0) = decide (0 < n) := decide_eq_decide.2 (by omega)
theorem c88 (o : D) (h : oC o = true) : RetX (Γ mx) 88 [.d 53 o] [] (.b (oSnd o)) [] := by
  obtain ⟨k, c, l, rfl, h1, h2⟩ := oC_ex h
  refine ret_goes (Γ := Γ mx) hP hZ h88_ok (by kernel_rfl) ⟨0, ?_⟩
  rw [r88, h1, h2, len_pos]
  show _ = some (AV.b (keyB k && (decide (0 < l.length) && risB l)), [])
  cases keyB k <;> cases decide (0 < l.length) <;> rfl
theorem c128 (a b : List UInt8) (_ : true = true) : RetX (Γ mx) 128 [.s a, .s b] [] (.b (hpB a b)) [] := by
  refine ret_goes (Γ := Γ mx) hP hZ none_ok (by kernel_rfl) ⟨0, ?_⟩
  rw [r128, hpB, show decide ((a.length : Int) ≥ (b.length : Int)) = decide (b.length ≤ a.length) from decide_eq_decide.2 (by omega), decide_eq_true (show (0 : Int) ≤ (b.length : Int) by omega)]
  cases decide (b.length ≤ a.length) <;> rfl
theorem h95_ok : CallsOK (Γ mx) H95 := specs_ok (.cons (sp2_ok c128) .nil)
theorem c95 (a b : List UInt8) (_ : true = true) : RetX (Γ mx) 95 [.s a, .s b] [] (.b (hpB a b)) [] := ret_goes (Γ := Γ mx) hP hZ h95_ok (by kernel_rfl) ⟨0, by rw [r95]⟩
theorem h93_ok : CallsOK (Γ mx) H93 := specs_ok (.cons (sp1_ok c82) (.cons (spL1s_ok c26) .nil))
theorem c93 (d : D) (h : rC d = true) : RetX (Γ mx) 93 [.d 93 d] [] (.b (rGood d)) [] := by
  obtain ⟨p, c, t, a, b, m, rfl, h1, h2⟩ := rC_ex h
  refine ret_goes (Γ := Γ mx) hP hZ h93_ok (by kernel_rfl) ⟨0, ?_⟩
  rw [r93, rGood, h1, h2, show decide ((p.length : Int) ≤ 200) = decide (p.length ≤ 200) from i64_le _ 200]
  cases decide (p.length ≤ 200) <;> cases cleanV p <;> first | rfl | skip
  cases tsB t <;> cases decide (a ≥ 0) <;> cases decide (a ≤ 36500) <;> cases decide (b ≥ 0) <;> rfl
theorem h120_ok : CallsOK (Γ mx) H120 := specs_ok (.cons (spD1_ok c93) .nil)
theorem c120 (d : D) (h : rC d = true) : RetX (Γ mx) 120 [.d 93 d] [] (.b (!rGood d)) [] := by
  obtain ⟨p, c, t, a, b, m, rfl, _, _⟩ := rC_ex h
  refine ret_goes (Γ := Γ mx) hP hZ h120_ok (by kernel_rfl) ⟨0, ?_⟩
  rw [r120, h]; rfl
theorem h144_ok : CallsOK (Γ mx) H144 := specs_ok (.cons (spD1_ok c120) .nil)
theorem rsC_eq {l : List D} (h : rsC l = true) : l.length ≤ 8388608 ∧ l.all rC = true := by simpa [rsC] using h
theorem g144 (l : List D) (hl : l.length ≤ 8388608) (ha : l.all rC = true) : ∀ (rest pre : List D) (i : Int), l = pre ++ rest → i = (pre.length : Int) →
    Goes (Γ mx) H144 144 2 ⟨[(0, .sl 93 .any l), (1, .fn 120 []), (7, .i .i64 (l.length : Int)), (8, .i .i64 i)], []⟩ (.i .i64 (rsN rest i), [])
  | [], pre, i, he, hi => by
    subst hi
    refine Goes.step ⟨0, ?_⟩
    rw [r144_2a, decide_eq_false (show ¬ (pre.length : Int) < (l.length : Int) by rw [he]; simp)]
    rfl
  | x :: r, pre, i, he, hi => by
    subst hi
    have hlen : l.length = pre.length + (r.length + 1) := by rw [he]; simp
    have hs : rC x = true := List.all_eq_true.1 ha _ (by rw [he]; simp)
    obtain ⟨p, c, t, a, b, m, rfl, _, _⟩ := rC_ex hs
    have hid : ∀ {R : Type} (K : D → Option R), idx l (pre.length : Int) K = K (D.agg [.str p, .slice c t, .int .i64 a, .int .i64 b, .bool m]) := fun K => by rw [he]; exact idx_mid pre r _ K
    have hw : IntKind.wrap .i64 ((pre.length : Int) + 1) = (pre.length : Int) + 1 := wrapI (by omega) (by omega)
    obtain ⟨n, hn⟩ := g144 l hl ha r (pre ++ [D.agg [.str p, .slice c t, .int .i64 a, .int .i64 b, .bool m]]) ((pre.length : Int) + 1) (by rw [he]; simp) (by simp)
    refine Goes.step ⟨n, ?_⟩
    rw [r144_2a, decide_eq_true (show (pre.length : Int) < (l.length : Int) by omega), cond_true, hid, hw]
    show (bif rC (D.agg [.str p, .slice c t, .int .i64 a, .int .i64 b, .bool m]) then (bif !rGood (D.agg [.str p, .slice c t, .int .i64 a, .int .i64 b, .bool m]) then _ else _) else _) = _
    rw [hs, cond_true, rsN]
    cases rGood (D.agg [.str p, .slice c t, .int .i64 a, .int .i64 b, .bool m]) with
    | false => rfl
    | true => exact hn
theorem c144 (l : List D) (h : rsC l = true) : RetX (Γ mx) 144 [.sl 93 .any l, .fn 120 []] [] (.i .i64 (rsI l)) [] := by
  obtain ⟨h1, h2⟩ := rsC_eq h
  obtain ⟨n, hn⟩ := g144 (mx := mx) l h1 h2 l [] 0 rfl rfl
  exact ret_goes (Γ := Γ mx) hP hZ h144_ok (by kernel_rfl) ⟨n, by rw [r144]; exact hn⟩
theorem h119_ok : CallsOK (Γ mx) H119 := specs_ok (.cons (spLF_ok c144) .nil)
theorem c119 (l : List D) (h : rsC l = true) : RetX (Γ mx) 119 [.sl 93 .any l, .fn 120 []] [] (.b (!rsA l)) [] := by
  refine ret_goes (Γ := Γ mx) hP hZ h119_ok (by kernel_rfl) ⟨0, ?_⟩
  rw [r119, h, cond_true, rsI, rsN_all l 0 (by omega)]
theorem h87_ok : CallsOK (Γ mx) H87 := specs_ok (.cons (spLF_ok c119) .nil)
theorem c87 (l : List D) (h : rsC l = true) : RetX (Γ mx) 87 [.sl 93 .any l] [] (.b (rsB l)) [] := by
  refine ret_goes (Γ := Γ mx) hP hZ h87_ok (by kernel_rfl) ⟨0, ?_⟩
  rw [r87, h, rsB, show decide ((l.length : Int) ≤ 8) = decide (l.length ≤ 8) from i64_le _ 8, cond_true, Bool.not_not]
  cases decide (l.length ≤ 8) <;> rfl
/-! ### the latest -/
theorem h152_ok : CallsOK (Γ mx) H152 := specs_ok (.cons xClone_ok (.cons (spL1_ok c53) .nil))
theorem c152 (l : List D) (h : tC l = true) : RetX (Γ mx) 152 [.sl 80 .any l] [] (.sl 80 .cl l) [] := by
  cases l with
  | nil => exact ret_goes (Γ := Γ mx) hP hZ h152_ok (by kernel_rfl) ⟨0, by rw [nr152]⟩
  | cons x r => exact ret_goes (Γ := Γ mx) hP hZ h152_ok (by kernel_rfl) ⟨0, by rw [r152, h]; rfl⟩
theorem h127_ok : CallsOK (Γ mx) H127 := specs_ok (.cons (spL1_ok c152) .nil)
theorem c127 (d : D) (h : vC d = true) : RetX (Γ mx) 127 [.d 62 d] [] (.d 62 (cloneD d)) [] := by
  obtain ⟨v, rfl, ht⟩ := vC_ex h
  refine ret_goes (Γ := Γ mx) hP hZ h127_ok (by kernel_rfl) ⟨0, ?_⟩
  refine (r127 (mx := mx) _ v.id v.mr v.sz v.bl v.dg v.cr v.md v.un v.ho v.c v.tg).trans ?_
  rw [ht]; rfl
theorem h94_ok : CallsOK (Γ mx) H94 := specs_ok (.cons (spD1_ok c88) (.cons (spD1_ok c127) .nil))
theorem snd_pos {k : List UInt8} {c : Cp} {l : List D} (h : oSnd (.agg [.str k, .slice c l]) = true) : 0 < l.length := by
  unfold oSnd at h
  simp only [Bool.and_eq_true, decide_eq_true_eq] at h
  exact h.2.1
theorem last_ex {l : List D} (h : 0 < l.length) (ha : l.all vC = true) : ∃ q v, l = q ++ [vD v] ∧ tC v.tg = true := by
  rcases List.eq_nil_or_concat l with rfl | ⟨q, x, rfl⟩
  · exact absurd h (by simp)
  · rw [List.concat_eq_append] at *
    obtain ⟨v, rfl, ht⟩ := vC_ex (List.all_eq_true.1 ha x (by simp))
    exact ⟨q, v, rfl, ht⟩
theorem getD_last (q : List D) (x z : D) : (q ++ [x]).getD ((q ++ [x]).length - 1) z = x := by
  rw [List.length_append, List.length_singleton, Nat.add_sub_cancel]; simp
theorem getD_mid (q r : List D) (x z : D) : (q ++ x :: r).getD q.length z = x := by simp [List.getD]
theorem c94 (o : D) (h : oC o = true) : RetX (Γ mx) 94 [.d 53 o] [] (.tuple [.d 62 (latD o), .i .i64 (latE o)]) [] := by
  obtain ⟨k, c, l, rfl, h1, h2⟩ := oC_ex h
  obtain ⟨hl, ha⟩ := vsC_eq h2
  refine ret_goes (Γ := Γ mx) hP hZ h94_ok (by kernel_rfl) ⟨0, ?_⟩
  rw [r94, h, cond_true, latD, latE]
  cases hs : oSnd (.agg [.str k, .slice c l]) with
  | false => rfl
  | true =>
    obtain ⟨q, v, rfl, ht⟩ := last_ex (snd_pos hs) ha
    have hw : IntKind.wrap .i64 (((q ++ [vD v]).length : Int) - 1) = (q.length : Int) := by rw [wrapI (by omega) (by simp at hl ⊢; omega)]; simp
    have hid : ∀ {R : Type} (K : D → Option R), idx (q ++ [vD v]) (q.length : Int) K = K (vD v) := fun K => idx_mid q [] _ K
    simp only [Bool.not_true, cond_false, cond_true]
    rw [hw, hid]
    rw [show (oVs (.agg [.str k, .slice c (q ++ [vD v])])) = q ++ [vD v] from rfl, getD_last]
    show (bif vC (vD v) then _ else _) = _
    rw [show vC (vD v) = true from ht]
    rfl
theorem h65_ok : CallsOK (Γ mx) H65 := specs_ok (.cons (spD1_ok c94) (.cons (sp2_ok c95) (.cons (spLL_ok c30) .nil)))
theorem latD_ex (o : D) (h : oC o = true) : ∃ v, latD o = vD v ∧ tC v.tg = true := by
  obtain ⟨k, c, l, rfl, h1, h2⟩ := oC_ex h
  obtain ⟨hl, ha⟩ := vsC_eq h2
  unfold latD
  cases hs : oSnd (.agg [.str k, .slice c l]) with
  | false => exact ⟨⟨0, false, 0, 0, _, 0, 0, 0, false, .nl, []⟩, rfl, rfl⟩
  | true =>
    obtain ⟨q, v, rfl, ht⟩ := last_ex (snd_pos hs) ha
    rw [cond_true, show (oVs (.agg [.str k, .slice c (q ++ [vD v])])) = q ++ [vD v] from rfl, getD_last]
    exact ⟨{ v with c := .cl }, rfl, ht⟩
theorem c65 (r o : D) (h : (rC r && oC o) = true) : RetX (Γ mx) 65 [.d 93 r, .d 53 o] [] (.b (meantD r o)) [] := by
  simp only [Bool.and_eq_true] at h
  obtain ⟨p, c, t, a, b, m, rfl, _, ht⟩ := rC_ex h.1
  obtain ⟨v, hv, hvt⟩ := latD_ex o h.2
  have ho := h.2
  obtain ⟨k, c', l, rfl, _, _⟩ := oC_ex h.2
  refine ret_goes (Γ := Γ mx) hP hZ h65_ok (by kernel_rfl) ⟨0, ?_⟩
  rw [r65, ho, cond_true, meantD, hv]
  show (bif latE (.agg [.str k, .slice c' l]) == 0 then (bif hpB k p then (bif tC t && tC v.tg then _ else _) else _) else _) = some (AV.b (latE (.agg [.str k, .slice c' l]) == 0 && (hpB k p && withinB t v.tg)), [])
  rw [ht, hvt]
  cases latE (.agg [.str k, .slice c' l]) == 0 <;> cases hpB k p <;> rfl
/-! ### the place -/
theorem c148 (d : D) (i : Int) (h : vC d = true) : RetX (Γ mx) 148 [.d 62 d, .ptr 0 [] 55] [some (.box 55 (.i .u64 i))] (.b (vIs d i)) [some (.box 55 (.i .u64 i))] := by
  obtain ⟨v, rfl, ht⟩ := vC_ex h
  exact ret_goes (Γ := Γ mx) hP hZ none_ok (by kernel_rfl) ⟨0, r148 (mx := mx) (runS []) _ v.id v.mr v.sz v.bl v.dg v.cr v.md v.un v.ho v.c v.tg i⟩
theorem xIs_ok : SpecOK (Γ mx) ⟨148, xIs⟩ := by
  intro args obs r obs' hr
  change xIs args obs = some (true, r, obs') at hr
  unfold xIs at hr
  split at hr
  · simp only [Option.some.injEq, Prod.mk.injEq, Bool.and_eq_true] at hr
    obtain ⟨⟨h1, h2, h3, h4⟩, rfl, rfl⟩ := hr
    obtain rfl := beq_id h1
    obtain rfl := beq_id h2
    obtain rfl := beq_id h3
    exact c148 _ _ h4
  · exact absurd hr (by simp)
theorem h147_ok : CallsOK (Γ mx) H147 := specs_ok (.cons xIs_ok .nil)
theorem g147 (l : List D) (j : Int) (hl : l.length ≤ 8388608) (ha : l.all vC = true) : ∀ (rest pre : List D) (i : Int), l = pre ++ rest → i = (pre.length : Int) →
    Goes (Γ mx) H147 147 2 ⟨[(0, .sl 62 .any l), (1, .fn 148 [.ptr 0 [] 55]), (7, .i .i64 (l.length : Int)), (8, .i .i64 i)], [some (.box 55 (.i .u64 j))]⟩ (.i .i64 (plN rest j i), [some (.box 55 (.i .u64 j))])
  | [], pre, i, he, hi => by
    subst hi
    refine Goes.step ⟨0, ?_⟩
    rw [r147_2a, decide_eq_false (show ¬ (pre.length : Int) < (l.length : Int) by rw [he]; simp)]
    rfl
  | x :: r, pre, i, he, hi => by
    subst hi
    have hlen : l.length = pre.length + (r.length + 1) := by rw [he]; simp
    have hs : vC x = true := List.all_eq_true.1 ha _ (by rw [he]; simp)
    obtain ⟨v, rfl, _⟩ := vC_ex hs
    have hid : ∀ {R : Type} (K : D → Option R), idx l (pre.length : Int) K = K (vD v) := fun K => by rw [he]; exact idx_mid pre r _ K
    have hw : IntKind.wrap .i64 ((pre.length : Int) + 1) = (pre.length : Int) + 1 := wrapI (by omega) (by omega)
    obtain ⟨n, hn⟩ := g147 l j hl ha r (pre ++ [vD v]) ((pre.length : Int) + 1) (by rw [he]; simp) (by simp)
    refine Goes.step ⟨n, ?_⟩
    rw [r147_2a, decide_eq_true (show (pre.length : Int) < (l.length : Int) by omega), cond_true, hid, hw]
    show (bif true && vC (vD v) then (bif vIs (vD v) j then _ else _) else _) = _
    rw [hs, Bool.true_and, cond_true, plN]
    cases vIs (vD v) j with
    | true => rfl
    | false => exact hn
theorem c147 (l : List D) (j : Int) (h : vsC l = true) : RetX (Γ mx) 147 [.sl 62 .any l, .fn 148 [.ptr 0 [] 55]] [some (.box 55 (.i .u64 j))] (.i .i64 (plI l j)) [some (.box 55 (.i .u64 j))] := by
  obtain ⟨h1, h2⟩ := vsC_eq h
  obtain ⟨n, hn⟩ := g147 (mx := mx) l j h1 h2 l [] 0 rfl rfl
  exact ret_goes (Γ := Γ mx) hP hZ h147_ok (by kernel_rfl) ⟨n, by rw [r147]; exact hn⟩
theorem xPl_ok : SpecOK (Γ mx) ⟨147, xPl⟩ := by
  intro args obs r obs' hr
  change xPl args obs = some (true, r, obs') at hr
  unfold xPl at hr
  split at hr
  · simp only [Option.some.injEq, Prod.mk.injEq, Bool.and_eq_true] at hr
    obtain ⟨⟨h1, h2, h3, h4, h5⟩, rfl, rfl⟩ := hr
    obtain rfl := beq_id h1
    obtain rfl := beq_id h2
    obtain rfl := beq_id h3
    obtain rfl := beq_id h4
    exact (c147 _ _ h5).anyc
  · exact absurd hr (by simp)
theorem h123_ok : CallsOK (Γ mx) H123 := specs_ok (.cons xPl_ok .nil)
theorem c123 (o : D) (i : Int) (h : oC o = true) : RetX (Γ mx) 123 [.d 53 o, .i .u64 i] [] (.i .i64 (plO o i)) [] := by
  obtain ⟨k, c, l, rfl, h1, h2⟩ := oC_ex h
  refine ret_goes (Γ := Γ mx) hP hZ h123_ok (by kernel_rfl) ⟨0, ?_⟩
  rw [r123, h2]; rfl
theorem h89_ok : CallsOK (Γ mx) H89 := specs_ok (.cons (spD1_ok c88) (.cons (spDu_ok c123) .nil))
theorem plN_range : ∀ (l : List D) (i k : Int), 0 ≤ k → plN l i k = -1 ∨ (k ≤ plN l i k ∧ plN l i k < k + l.length)
  | [], _, _, _ => .inl rfl
  | d :: r, i, k, h => by
    rw [plN]
    cases vIs d i with
    | true => rw [cond_true]; exact .inr ⟨by omega, by simp only [List.length_cons]; omega⟩
    | false =>
      rw [cond_false]
      rcases plN_range r i (k + 1) (by omega) with h1 | h1
      · exact .inl h1
      · exact .inr ⟨by omega, by simp only [List.length_cons]; omega⟩
theorem mid_ex {l : List D} (ha : l.all vC = true) {n : Nat} (h : n < l.length) : ∃ q v r, l = q ++ vD v :: r ∧ q.length = n := by
  obtain ⟨v, hv, _⟩ := vC_ex (List.all_eq_true.1 ha _ (List.getElem_mem h))
  refine ⟨l.take n, v, l.drop (n + 1), ?_, by rw [List.length_take]; omega⟩
  rw [← hv, List.getElem_cons_drop, List.take_append_drop]
theorem c89 (o : D) (i : Int) (h : oC o = true) : RetX (Γ mx) 89 [.d 53 o, .i .u64 i] [] (.tuple [.i .i64 (replT o i), .b (replB o i)]) [] := by
  obtain ⟨k, c, l, rfl, h1, h2⟩ := oC_ex h
  obtain ⟨hl, ha⟩ := vsC_eq h2
  refine ret_goes (Γ := Γ mx) hP hZ h89_ok (by kernel_rfl) ⟨0, ?_⟩
  rw [r89, h, cond_true, cond_true, replT, replB]
  cases hs : oSnd (.agg [.str k, .slice c l]) with
  | false => rfl
  | true =>
    have hp := snd_pos hs
    rw [show oVs (.agg [.str k, .slice c l]) = l from rfl, wrapI (n := (l.length : Int) - 1) (by omega) (by omega)]
    rcases plN_range l i 0 (by omega) with e | e
    · have e : plO (.agg [.str k, .slice c l]) i = -1 := e
      rw [e]; rfl
    · have e : 0 ≤ plO (.agg [.str k, .slice c l]) i ∧ plO (.agg [.str k, .slice c l]) i < 0 + l.length := e
      generalize plO (.agg [.str k, .slice c l]) i = z at e ⊢
      rw [decide_eq_false (show ¬ z < 0 by omega)]
      by_cases hz : z = (l.length : Int) - 1
      · rw [hz]; simp
      · have hz' : (z == (l.length : Int) - 1) = false := beq_eq_false_iff_ne.2 hz
        obtain ⟨q, v, r, rfl, hq⟩ := mid_ex ha (n := (z + 1).toNat) (by omega)
        have hw : IntKind.wrap .i64 (z + 1) = (q.length : Int) := by rw [wrapI (by omega) (by omega)]; omega
        rw [hz', hw, ← hq]
        simp only [Bool.not_true, Bool.not_false, cond_false, cond_true, Bool.and_true, getD_mid]
        rw [idx_mid q r]
        rfl
theorem h61_ok : CallsOK (Γ mx) H61 := specs_ok (.cons (spL1_ok c87) (.cons (spD1_ok c88) .nil))
theorem c61 (l : List D) (o : D) (h : (rsC l && oC o) = true) : RetX (Γ mx) 61 [.sl 93 .any l, .d 53 o] [] (.b (goodB l o)) [] := by
  simp only [Bool.and_eq_true] at h
  have ho := h.2
  obtain ⟨k, c', l', rfl, _, _⟩ := oC_ex h.2
  refine ret_goes (Γ := Γ mx) hP hZ h61_ok (by kernel_rfl) ⟨0, ?_⟩
  rw [r61, goodB, h.1, ho]
  cases rsB l <;> rfl
end Go.Proofs.YtjbemleloffafaaDoor.V

/- Rules: contracts: the events, what is due; the law's function. -/
namespace Go.Proofs.YtjbemleloffafaaDoor.V
open Go
set_option maxRecDepth 100000
set_option linter.unusedVariables false
set_option linter.unusedSimpArgs false
variable {mx : Int}
theorem room40 {n : Nat} (h : n ≤ 200000000) : roomB n 40 = true := by
  unfold roomB
  simp only [Bool.and_eq_true, decide_eq_true_eq]
  exact ⟨rfl, by omega⟩
theorem h62_ok : CallsOK (Γ mx) H62 := specs_ok (.cons (spDD_ok c65) (.cons (spDu_ok c89) .nil))
def resE : List D → AV × Objs
  | [] => (.snil, [])
  | e :: E => (.sl 90 .any (e :: E), [])
def st18 (rl : List D) (o : D) (nv : D) (j : Int) : List D → St
  | [] => ⟨[(3, .ptr 0 [] 53), (5, .snil), (6, .ptr 1 [] 62), (95, .sl 93 .any rl), (96, .i .i64 (rl.length : Int)), (97, .i .i64 j)], [some (.box 53 (.d 53 o)), some (.box 62 (.d 62 nv))]⟩
  | e :: E => ⟨[(3, .ptr 0 [] 53), (5, .ref 90 1), (6, .ptr 2 [] 62), (95, .sl 93 .any rl), (96, .i .i64 (rl.length : Int)), (97, .i .i64 j)], [some (.box 53 (.d 53 o)), some (.arr 90 (e :: E) false), some (.box 62 (.d 62 nv))]⟩
def st4 (rl : List D) (o : D) (nv : D) (c : Cp) (l : List D) (i : Int) : List D → St
  | [] => ⟨[(0, .sl 93 .any rl), (3, .ptr 0 [] 53), (5, .snil), (6, .ptr 1 [] 62), (24, .sl 62 c l), (25, .i .i64 (l.length : Int)), (26, .i .i64 i)], [some (.box 53 (.d 53 o)), some (.box 62 (.d 62 nv))]⟩
  | e :: E => ⟨[(0, .sl 93 .any rl), (3, .ptr 0 [] 53), (5, .ref 90 1), (6, .ptr 2 [] 62), (24, .sl 62 c l), (25, .i .i64 (l.length : Int)), (26, .i .i64 i)], [some (.box 53 (.d 53 o)), some (.arr 90 (e :: E) false), some (.box 62 (.d 62 nv))]⟩
def st8 (rl : List D) (o : D) (nv : D) (c : Cp) (l : List D) (i : Int) (v : D) (tm : Int) (rp : Bool) (j : Int) : List D → St
  | [] => ⟨[(0, .sl 93 .any rl), (3, .ptr 0 [] 53), (5, .snil), (6, .ptr 1 [] 62), (8, .ptr 2 [] 62), (9, .i .i64 tm), (10, .b rp), (24, .sl 62 c l), (25, .i .i64 (l.length : Int)), (26, .i .i64 i), (37, .sl 93 .any rl), (38, .i .i64 (rl.length : Int)), (39, .i .i64 j)], [some (.box 53 (.d 53 o)), some (.box 62 (.d 62 nv)), some (.box 62 (.d 62 v))]⟩
  | e :: E => ⟨[(0, .sl 93 .any rl), (3, .ptr 0 [] 53), (5, .ref 90 1), (6, .ptr 2 [] 62), (8, .ptr 3 [] 62), (9, .i .i64 tm), (10, .b rp), (24, .sl 62 c l), (25, .i .i64 (l.length : Int)), (26, .i .i64 i), (37, .sl 93 .any rl), (38, .i .i64 (rl.length : Int)), (39, .i .i64 j)], [some (.box 53 (.d 53 o)), some (.arr 90 (e :: E) false), some (.box 62 (.d 62 nv)), some (.box 62 (.d 62 v))]⟩
theorem ev2_eq (E : List D) (o : D) (v : Ver) (p : List UInt8) (c : Cp) (t : List D) (a b : Int) (m : Bool) : E ++ ev2 o v (.agg [.str p, .slice c t, .int .i64 a, .int .i64 b, .bool m]) =
    bif meantD (.agg [.str p, .slice c t, .int .i64 a, .int .i64 b, .bool m]) o then (bif decide (a > 0) then (bif !v.mr then E ++ [evD (addD v.cr a) 0 lk0] else E) else E) else E := by
  unfold ev2
  rw [show rDays (.agg [.str p, .slice c t, .int .i64 a, .int .i64 b, .bool m]) = a from rfl]
  cases meantD (.agg [.str p, .slice c t, .int .i64 a, .int .i64 b, .bool m]) o <;> cases decide (a > 0) <;> cases v.mr <;> simp
theorem ev2_len (o : D) (v : Ver) (r : D) : (ev2 o v r).length ≤ 1 := by
  unfold ev2
  cases meantD r o && (decide (rDays r > 0) && !v.mr) <;> simp
theorem g18 (rl : List D) (k : List UInt8) (ck : Cp) (ol : List D) (nv : Ver) (hl : rl.length ≤ 8) (ha : rl.all rC = true) (ho : oC (.agg [.str k, .slice ck ol]) = true) : ∀ (rest pre E : List D) (i : Int), rl = pre ++ rest → i = (pre.length : Int) → E.length + rest.length ≤ 100000000 →
    Goes (Γ mx) H62 62 18 (st18 rl (.agg [.str k, .slice ck ol]) (vD nv) i E) (resE (E ++ rest.flatMap (ev2 (.agg [.str k, .slice ck ol]) nv)))
  | [], pre, E, i, he, hi, hE => by
    subst hi
    have hd : decide ((pre.length : Int) < (rl.length : Int)) = false := decide_eq_false (by rw [he]; simp)
    rw [List.flatMap_nil, List.append_nil]
    cases E with
    | nil =>
      refine Goes.step ⟨0, (r62_18a ..).trans ?_⟩
      rw [hd]; rfl
    | cons e E =>
      refine Goes.step ⟨0, (r62_18b ..).trans ?_⟩
      rw [hd]; rfl
  | x :: r, pre, E, i, he, hi, hE => by
    subst hi
    have hlen : rl.length = pre.length + (r.length + 1) := by rw [he]; simp
    simp only [List.length_cons] at hE
    have hs : rC x = true := List.all_eq_true.1 ha _ (by rw [he]; simp)
    have h2 := ev2_len (.agg [.str k, .slice ck ol]) nv x
    obtain ⟨n, hn⟩ := g18 rl k ck ol nv hl ha ho r (pre ++ [x]) (E ++ ev2 (.agg [.str k, .slice ck ol]) nv x) ((pre.length : Int) + 1) (by rw [he]; simp) (by simp) (by rw [List.length_append]; omega)
    rw [List.append_assoc, ← List.flatMap_cons] at hn
    obtain ⟨p, c, t, a, b, m, rfl, _, _⟩ := rC_ex hs
    rw [ev2_eq] at hn
    have hid : ∀ {R : Type} (K : D → Option R), idx rl (pre.length : Int) K = K (.agg [.str p, .slice c t, .int .i64 a, .int .i64 b, .bool m]) := fun K => by rw [he]; exact idx_mid pre r _ K
    have hw : IntKind.wrap .i64 ((pre.length : Int) + 1) = (pre.length : Int) + 1 := wrapI (by omega) (by omega)
    have hd : decide ((pre.length : Int) < (rl.length : Int)) = true := decide_eq_true (by omega)
    have hb : (rC (.agg [.str p, .slice c t, .int .i64 a, .int .i64 b, .bool m]) && oC (.agg [.str k, .slice ck ol])) = true := by rw [hs, ho]; rfl
    obtain ⟨vid, vmr, vsz, vbl, vdg, vcr, vmd, vun, vho, vc, vtg⟩ := nv
    revert hn
    cases E with
    | nil =>
      intro hn
      refine Goes.step ⟨n, (r62_18a ..).trans ?_⟩
      rw [hd, cond_true, hid, hw]
      show (bif rC (.agg [.str p, .slice c t, .int .i64 a, .int .i64 b, .bool m]) && oC (.agg [.str k, .slice ck ol]) then (bif meantD (.agg [.str p, .slice c t, .int .i64 a, .int .i64 b, .bool m]) (.agg [.str k, .slice ck ol]) then (bif decide (a > 0) then (bif !vmr then _ else _) else _) else _) else _) = _
      rw [hb, cond_true]
      revert hn
      generalize resE ([] ++ List.flatMap (ev2 (.agg [.str k, .slice ck ol]) ⟨vid, vmr, vsz, vbl, vdg, vcr, vmd, vun, vho, vc, vtg⟩) (.agg [.str p, .slice c t, .int .i64 a, .int .i64 b, .bool m] :: r)) = R
      cases meantD (.agg [.str p, .slice c t, .int .i64 a, .int .i64 b, .bool m]) (.agg [.str k, .slice ck ol]) <;> cases decide (a > 0) <;> cases vmr <;> exact fun hn => hn
    | cons e E =>
      intro hn
      refine Goes.step ⟨n, (r62_18b ..).trans ?_⟩
      rw [hd, cond_true, hid, hw]
      show (bif rC (.agg [.str p, .slice c t, .int .i64 a, .int .i64 b, .bool m]) && oC (.agg [.str k, .slice ck ol]) then (bif meantD (.agg [.str p, .slice c t, .int .i64 a, .int .i64 b, .bool m]) (.agg [.str k, .slice ck ol]) then (bif decide (a > 0) then (bif !vmr then (bif roomB ((e :: E).length + 1) 40 then _ else _) else _) else _) else _) else _) = _
      rw [hb, cond_true, room40 (by simp only [List.length_cons] at hE ⊢; omega)]
      revert hn
      generalize resE ((e :: E) ++ List.flatMap (ev2 (.agg [.str k, .slice ck ol]) ⟨vid, vmr, vsz, vbl, vdg, vcr, vmd, vun, vho, vc, vtg⟩) (.agg [.str p, .slice c t, .int .i64 a, .int .i64 b, .bool m] :: r)) = R
      cases meantD (.agg [.str p, .slice c t, .int .i64 a, .int .i64 b, .bool m]) (.agg [.str k, .slice ck ol]) <;> cases decide (a > 0) <;> cases vmr <;> exact fun hn => hn
theorem ev1_eq (E : List D) (k : List UInt8) (ck : Cp) (ol : List D) (v : Ver) (p : List UInt8) (c : Cp) (t : List D) (a b : Int) (m : Bool) : E ++ ev1 (.agg [.str k, .slice ck ol]) v (.agg [.str p, .slice c t, .int .i64 a, .int .i64 b, .bool m]) =
    bif !meantD (.agg [.str p, .slice c t, .int .i64 a, .int .i64 b, .bool m]) (.agg [.str k, .slice ck ol]) then E else
      bif replB (.agg [.str k, .slice ck ol]) v.id then (bif decide (b > 0) then E ++ [evD (addD (replT (.agg [.str k, .slice ck ol]) v.id) b) v.id (lkV v)] else E)
      else (bif v.mr then (bif m then (bif (ol.length : Int) == 1 then E ++ [evD (-62135596800) v.id (lkV v)] else E) else E) else E) := by
  unfold ev1
  rw [show rOld (.agg [.str p, .slice c t, .int .i64 a, .int .i64 b, .bool m]) = b from rfl, show rMk (.agg [.str p, .slice c t, .int .i64 a, .int .i64 b, .bool m]) = m from rfl, show oVs (.agg [.str k, .slice ck ol]) = ol from rfl]
  cases meantD (.agg [.str p, .slice c t, .int .i64 a, .int .i64 b, .bool m]) (.agg [.str k, .slice ck ol]) <;> cases replB (.agg [.str k, .slice ck ol]) v.id <;> cases decide (b > 0) <;> cases v.mr <;> cases m <;> cases (ol.length : Int) == 1 <;> simp
theorem ev1_len (o : D) (v : Ver) (r : D) : (ev1 o v r).length ≤ 1 := by
  unfold ev1
  cases meantD r o <;> cases replB o v.id && decide (rOld r > 0) <;> cases !replB o v.id && (v.mr && (rMk r && ((oVs o).length : Int) == 1)) <;> simp
theorem g8 (rl : List D) (k : List UInt8) (ck : Cp) (ol : List D) (nv v : Ver) (c0 : Cp) (i : Int) (R : AV × Objs) (hl : rl.length ≤ 8) (hi0 : 0 ≤ i) (hi1 : i ≤ 8388608) (ha : rl.all rC = true) (ho : oC (.agg [.str k, .slice ck ol]) = true) : ∀ (rest pre E : List D) (j : Int), rl = pre ++ rest → j = (pre.length : Int) → E.length + rest.length ≤ 100000000 →
    Goes (Γ mx) H62 62 4 (st4 rl (.agg [.str k, .slice ck ol]) (vD nv) c0 ol (i + 1) (E ++ rest.flatMap (ev1 (.agg [.str k, .slice ck ol]) v))) R →
    Goes (Γ mx) H62 62 8 (st8 rl (.agg [.str k, .slice ck ol]) (vD nv) c0 ol i (vD v) (replT (.agg [.str k, .slice ck ol]) v.id) (replB (.agg [.str k, .slice ck ol]) v.id) j E) R
  | [], pre, E, j, he, hi, hE => by
    subst hi
    rintro ⟨n, hn⟩
    have hd : decide ((pre.length : Int) < (rl.length : Int)) = false := decide_eq_false (by rw [he]; simp)
    rw [List.flatMap_nil, List.append_nil] at hn
    have hw : IntKind.wrap .i64 (i + 1) = i + 1 := wrapI (by omega) (by omega)
    revert hn
    cases E with
    | nil =>
      intro hn
      refine Goes.step ⟨n, (r62_8a ..).trans ?_⟩
      rw [hd, hw]; exact hn
    | cons e E =>
      intro hn
      refine Goes.step ⟨n, (r62_8b ..).trans ?_⟩
      rw [hd, hw]; exact hn
  | x :: r, pre, E, j, he, hi, hE => by
    subst hi
    intro hg
    have hlen : rl.length = pre.length + (r.length + 1) := by rw [he]; simp
    simp only [List.length_cons] at hE
    have hs : rC x = true := List.all_eq_true.1 ha _ (by rw [he]; simp)
    have h2 := ev1_len (.agg [.str k, .slice ck ol]) v x
    rw [List.flatMap_cons, ← List.append_assoc] at hg
    obtain ⟨n, hn⟩ := g8 rl k ck ol nv v c0 i R hl hi0 hi1 ha ho r (pre ++ [x]) (E ++ ev1 (.agg [.str k, .slice ck ol]) v x) ((pre.length : Int) + 1) (by rw [he]; simp) (by simp) (by rw [List.length_append]; omega) hg
    clear hg
    obtain ⟨p, c, t, a, b, m, rfl, _, _⟩ := rC_ex hs
    rw [ev1_eq] at hn
    have hid : ∀ {R : Type} (K : D → Option R), idx rl (pre.length : Int) K = K (.agg [.str p, .slice c t, .int .i64 a, .int .i64 b, .bool m]) := fun K => by rw [he]; exact idx_mid pre r _ K
    have hw : IntKind.wrap .i64 ((pre.length : Int) + 1) = (pre.length : Int) + 1 := wrapI (by omega) (by omega)
    have hd : decide ((pre.length : Int) < (rl.length : Int)) = true := decide_eq_true (by omega)
    have hb : (rC (.agg [.str p, .slice c t, .int .i64 a, .int .i64 b, .bool m]) && oC (.agg [.str k, .slice ck ol])) = true := by rw [hs, ho]; rfl
    obtain ⟨vid, vmr, vsz, vbl, vdg, vcr, vmd, vun, vho, vc, vtg⟩ := v
    revert hn
    cases E with
    | nil =>
      intro hn
      refine Goes.step ⟨n, (r62_8a ..).trans ?_⟩
      rw [hd, cond_true, hid, hw]
      show (bif rC (.agg [.str p, .slice c t, .int .i64 a, .int .i64 b, .bool m]) && oC (.agg [.str k, .slice ck ol]) then (bif !meantD (.agg [.str p, .slice c t, .int .i64 a, .int .i64 b, .bool m]) (.agg [.str k, .slice ck ol]) then _ else (bif replB (.agg [.str k, .slice ck ol]) vid then (bif decide (b > 0) then _ else _) else _)) else _) = _
      rw [hb, cond_true]
      revert hn
      generalize replT (.agg [.str k, .slice ck ol]) (Ver.id ⟨vid, vmr, vsz, vbl, vdg, vcr, vmd, vun, vho, vc, vtg⟩) = T
      show _ → (bif !meantD (.agg [.str p, .slice c t, .int .i64 a, .int .i64 b, .bool m]) (.agg [.str k, .slice ck ol]) then _ else (bif replB (.agg [.str k, .slice ck ol]) vid then (bif decide (b > 0) then _ else _) else (bif !replB (.agg [.str k, .slice ck ol]) vid then (bif vmr then (bif m then (bif (ol.length : Int) == 1 then _ else _) else _) else _) else _))) = _
      cases meantD (.agg [.str p, .slice c t, .int .i64 a, .int .i64 b, .bool m]) (.agg [.str k, .slice ck ol]) <;> cases replB (.agg [.str k, .slice ck ol]) vid <;> cases decide (b > 0) <;> cases vmr <;> cases m <;> cases (ol.length : Int) == 1 <;> exact fun hn => hn
    | cons e E =>
      intro hn
      refine Goes.step ⟨n, (r62_8b ..).trans ?_⟩
      rw [hd, cond_true, hid, hw]
      show (bif rC (.agg [.str p, .slice c t, .int .i64 a, .int .i64 b, .bool m]) && oC (.agg [.str k, .slice ck ol]) then (bif !meantD (.agg [.str p, .slice c t, .int .i64 a, .int .i64 b, .bool m]) (.agg [.str k, .slice ck ol]) then _ else (bif replB (.agg [.str k, .slice ck ol]) vid then (bif decide (b > 0) then (bif roomB ((e :: E).length + 1) 40 then _ else _) else _) else _)) else _) = _
      rw [hb, cond_true, room40 (by simp only [List.length_cons] at hE ⊢; omega)]
      revert hn
      generalize replT (.agg [.str k, .slice ck ol]) (Ver.id ⟨vid, vmr, vsz, vbl, vdg, vcr, vmd, vun, vho, vc, vtg⟩) = T
      show _ → (bif !meantD (.agg [.str p, .slice c t, .int .i64 a, .int .i64 b, .bool m]) (.agg [.str k, .slice ck ol]) then _ else (bif replB (.agg [.str k, .slice ck ol]) vid then (bif decide (b > 0) then _ else _) else (bif !replB (.agg [.str k, .slice ck ol]) vid then (bif vmr then (bif m then (bif (ol.length : Int) == 1 then _ else _) else _) else _) else _))) = _
      cases meantD (.agg [.str p, .slice c t, .int .i64 a, .int .i64 b, .bool m]) (.agg [.str k, .slice ck ol]) <;> cases replB (.agg [.str k, .slice ck ol]) vid <;> cases decide (b > 0) <;> cases vmr <;> cases m <;> cases (ol.length : Int) == 1 <;> exact fun hn => hn
theorem fm_len {α : Type} (f : α → List D) (h : ∀ x, (f x).length ≤ 1) : ∀ l : List α, (l.flatMap f).length ≤ l.length
  | [] => Nat.le_refl _
  | x :: r => by rw [List.flatMap_cons, List.length_append, List.length_cons]; have := h x; have := fm_len f h r; omega
theorem g4 (rl : List D) (k : List UInt8) (ck : Cp) (ol : List D) (nv : Ver) (c0 : Cp) (hl : rl.length ≤ 8) (hol : ol.length ≤ 8388608) (ha : rl.all rC = true) (ho : oC (.agg [.str k, .slice ck ol]) = true) : ∀ (rest : List Ver) (pre E : List D) (i : Int), ol = pre ++ rest.map vD → i = (pre.length : Int) → E.length + 8 * rest.length ≤ 90000000 →
    Goes (Γ mx) H62 62 4 (st4 rl (.agg [.str k, .slice ck ol]) (vD nv) c0 ol i E) (resE (E ++ rest.flatMap (evV rl (.agg [.str k, .slice ck ol])) ++ rl.flatMap (ev2 (.agg [.str k, .slice ck ol]) nv)))
  | [], pre, E, i, he, hi, hE => by
    subst hi
    have hd : decide ((pre.length : Int) < (ol.length : Int)) = false := decide_eq_false (by rw [he]; simp)
    rw [List.flatMap_nil, List.append_nil]
    obtain ⟨n, hn⟩ := g18 (mx := mx) rl k ck ol nv hl ha ho rl [] E 0 rfl rfl (by omega)
    revert hn
    cases E with
    | nil =>
      intro hn
      refine Goes.step ⟨n, (r62_4a ..).trans ?_⟩
      rw [hd]; exact hn
    | cons e E =>
      intro hn
      refine Goes.step ⟨n, (r62_4b ..).trans ?_⟩
      rw [hd]; exact hn
  | v :: r, pre, E, i, he, hi, hE => by
    subst hi
    have hlen : ol.length = pre.length + (r.length + 1) := by rw [he]; simp
    simp only [List.length_cons] at hE
    have h8 : (evV rl (.agg [.str k, .slice ck ol]) v).length ≤ 8 := Nat.le_trans (fm_len _ (fun x => ev1_len _ v x) rl) hl
    have ih := g4 rl k ck ol nv c0 hl hol ha ho r (pre ++ [vD v]) (E ++ evV rl (.agg [.str k, .slice ck ol]) v) ((pre.length : Int) + 1) (by rw [he]; simp) (by simp) (by rw [List.length_append]; omega)
    rw [List.append_assoc E, ← List.flatMap_cons] at ih
    obtain ⟨n, hn⟩ := g8 (mx := mx) rl k ck ol nv v c0 (pre.length : Int) _ hl (by omega) (by omega) ha ho rl [] E 0 rfl rfl (by omega) ih
    have hid : ∀ {R : Type} (K : D → Option R), idx ol (pre.length : Int) K = K (vD v) := fun K => by rw [he]; exact idx_mid pre (r.map vD) _ K
    have hd : decide ((pre.length : Int) < (ol.length : Int)) = true := decide_eq_true (by omega)
    revert hn
    generalize resE (E ++ List.flatMap (evV rl (.agg [.str k, .slice ck ol])) (v :: r) ++ rl.flatMap (ev2 (.agg [.str k, .slice ck ol]) nv)) = R
    cases E with
    | nil =>
      intro hn
      refine Goes.step ⟨n, (r62_4a ..).trans ?_⟩
      rw [hd, cond_true, hid]
      show (bif oC (.agg [.str k, .slice ck ol]) then _ else _) = _
      rw [ho]
      exact hn
    | cons e E =>
      intro hn
      refine Goes.step ⟨n, (r62_4b ..).trans ?_⟩
      rw [hd, cond_true, hid]
      show (bif oC (.agg [.str k, .slice ck ol]) then _ else _) = _
      rw [ho]
      exact hn
theorem new_eq (k : List UInt8) (c : Cp) (q : List D) (v : Ver) : newV (.agg [.str k, .slice c (q ++ [vD v])]) = v := by
  unfold newV vsOf
  rw [show oVs (.agg [.str k, .slice c (q ++ [vD v])]) = q ++ [vD v] from rfl, List.filterMap_append]
  simp [vOf_vD]
theorem c62 (l : List D) (o : D) (h : (rsC l && (oC o && goodB l o)) = true) : RetX (Γ mx) 62 [.sl 93 .any l, .d 53 o] [] (.sl 90 .any (evsL l o)) [] := by
  simp only [Bool.and_eq_true] at h
  obtain ⟨hr, ho, hg⟩ := h
  obtain ⟨k, c, ol, rfl, h1, h2⟩ := oC_ex ho
  obtain ⟨hol, hoa⟩ := vsC_eq h2
  obtain ⟨_, hra⟩ := rsC_eq hr
  have hg2 : rsB l = true ∧ oSnd (.agg [.str k, .slice c ol]) = true := by unfold goodB at hg; simpa using hg
  have hl8 : l.length ≤ 8 := by have := hg2.1; unfold rsB at this; simp only [Bool.and_eq_true, decide_eq_true_eq] at this; exact this.1
  obtain ⟨vs, e1, e2⟩ := vs_ex hoa
  obtain ⟨q, nv, e3, _⟩ := last_ex (snd_pos hg2.2) hoa
  have hnew : newV (.agg [.str k, .slice c ol]) = nv := by rw [e3]; exact new_eq k c q nv
  have hvl : vs.length ≤ 8388608 := by have := congrArg List.length e1; rw [List.length_map] at this; omega
  obtain ⟨n, hn⟩ := g4 (mx := mx) l k c ol nv c hl8 hol hra ho vs [] [] 0 e1 rfl (by simp; omega)
  have hw : IntKind.wrap .i64 ((ol.length : Int) - 1) = (q.length : Int) := by
    have := congrArg List.length e3
    rw [List.length_append, List.length_singleton] at this
    rw [wrapI (by omega) (by omega)]; omega
  have hid : ∀ {R : Type} (K : D → Option R), idx ol (q.length : Int) K = K (vD nv) := fun K => by rw [e3]; exact idx_mid q [] _ K
  have hev : evsL l (.agg [.str k, .slice c ol]) = [] ++ vs.flatMap (evV l (.agg [.str k, .slice c ol])) ++ l.flatMap (ev2 (.agg [.str k, .slice c ol]) nv) := by
    unfold evsL
    rw [hnew, show vsOf (oVs (.agg [.str k, .slice c ol])) = vs from e2]; rfl
  rw [← hev] at hn
  have hgo : RetX (Γ mx) 62 [.sl 93 .any l, .d 53 (.agg [.str k, .slice c ol])] [] (resE (evsL l (.agg [.str k, .slice c ol]))).1 [] := by
    refine ret_goes (Γ := Γ mx) hP hZ h62_ok (by kernel_rfl) ⟨n, ?_⟩
    rw [r62, hw, hid]
    refine Eq.trans ?_ (hn.trans ?_)
    · rfl
    · cases evsL l (.agg [.str k, .slice c ol]) <;> rfl
  refine hgo.wk ?_
  cases evsL l (.agg [.str k, .slice c ol]) with
  | nil => exact WkA.nil 90
  | cons e E => exact WkA.refl _
theorem h36_ok : CallsOK (Γ mx) H36 := specs_ok (.cons (spLD_ok c61) (.cons (spLD_ok c62) (.cons (spDt_ok c63) .nil)))
def isEv : D → Prop := fun x => ∃ t i a b c, x = .agg [.int .i64 t, .int .u64 i, .agg [.int .i64 a, .int .i64 b, .bool c]]
theorem ev_all (rl : List D) (o : D) : ∀ x ∈ evsL rl o, isEv x := by
  intro x hx
  unfold evsL at hx
  rcases List.mem_append.1 hx with hx | hx
  · obtain ⟨v, _, hx⟩ := List.mem_flatMap.1 hx
    unfold evV at hx
    obtain ⟨r, _, hx⟩ := List.mem_flatMap.1 hx
    unfold ev1 at hx
    revert hx
    cases meantD r o <;> cases replB o v.id && decide (rOld r > 0) <;> cases !replB o v.id && (v.mr && (rMk r && ((oVs o).length : Int) == 1)) <;> intro hx <;> first | cases hx; done | (simp only [Bool.not_true, Bool.not_false, cond_false, cond_true, List.mem_singleton, List.not_mem_nil] at hx; subst hx; exact ⟨_, _, _, _, _, rfl⟩) | (simp only [Bool.not_true, Bool.not_false, cond_false, cond_true, List.not_mem_nil] at hx)
  · obtain ⟨r, _, hx⟩ := List.mem_flatMap.1 hx
    unfold ev2 at hx
    cases h1 : meantD r o && (decide (rDays r > 0) && !(newV o).mr) with
    | true => rw [h1] at hx; simp only [cond_true, List.mem_singleton] at hx; subst hx; exact ⟨_, _, _, _, _, rfl⟩
    | false => rw [h1] at hx; cases hx
theorem evs_len (rl : List D) (k : List UInt8) (c : Cp) (ol : List D) (h1 : rl.length ≤ 8) (h2 : ol.length ≤ 8388608) (ha : ol.all vC = true) : (evsL rl (.agg [.str k, .slice c ol])).length ≤ 100000000 := by
  obtain ⟨vs, e1, e2⟩ := vs_ex ha
  have hvl : vs.length ≤ 8388608 := by have := congrArg List.length e1; rw [List.length_map] at this; omega
  unfold evsL
  rw [show vsOf (oVs (.agg [.str k, .slice c ol])) = vs from e2, List.length_append]
  have a1 : ∀ vs : List Ver, (vs.flatMap (evV rl (.agg [.str k, .slice c ol]))).length ≤ 8 * vs.length := by
    intro vs
    induction vs with
    | nil => exact Nat.le_refl _
    | cons v r ih =>
      rw [List.flatMap_cons, List.length_append, List.length_cons]
      have : (evV rl (.agg [.str k, .slice c ol]) v).length ≤ 8 := Nat.le_trans (fm_len _ (fun x => ev1_len _ v x) rl) h1
      omega
  have := a1 vs
  have := fm_len (ev2 (.agg [.str k, .slice c ol]) (newV (.agg [.str k, .slice c ol]))) (fun x => ev2_len _ _ x) rl
  omega
def dueR : Option D → AV × Objs
  | some x => (.tuple [.i .u64 (evI x), .b (evI x == 0), .i .i64 0], [])
  | none => (.tuple [.i .u64 0, .b false, .i .i64 0], [])
theorem g36 (l : List D) (t : Int) (hl : l.length ≤ 100000000) (ha : ∀ x ∈ l, isEv x) : ∀ (rest pre : List D) (i : Int), l = pre ++ rest → i = (pre.length : Int) →
    Goes (Γ mx) H36 36 4 ⟨[(2, .i .i64 t), (17, .sl 90 .any l), (18, .i .i64 (l.length : Int)), (19, .i .i64 i)], []⟩ (dueR (dueF rest t))
  | [], pre, i, he, hi => by
    subst hi
    refine Goes.step ⟨0, ?_⟩
    rw [r36_4a, decide_eq_false (show ¬ (pre.length : Int) < (l.length : Int) by rw [he]; simp)]
    rfl
  | x :: r, pre, i, he, hi => by
    subst hi
    have hlen : l.length = pre.length + (r.length + 1) := by rw [he]; simp
    obtain ⟨tm, id, a, b, c, rfl⟩ := ha x (by rw [he]; simp)
    have hid : ∀ {R : Type} (K : D → Option R), idx l (pre.length : Int) K = K (.agg [.int .i64 tm, .int .u64 id, .agg [.int .i64 a, .int .i64 b, .bool c]]) := fun K => by rw [he]; exact idx_mid pre r _ K
    have hw : IntKind.wrap .i64 ((pre.length : Int) + 1) = (pre.length : Int) + 1 := wrapI (by omega) (by omega)
    obtain ⟨n, hn⟩ := g36 l t hl ha r (pre ++ [.agg [.int .i64 tm, .int .u64 id, .agg [.int .i64 a, .int .i64 b, .bool c]]]) ((pre.length : Int) + 1) (by rw [he]; simp) (by simp)
    refine Goes.step ⟨n, ?_⟩
    rw [r36_4a, decide_eq_true (show (pre.length : Int) < (l.length : Int) by omega), cond_true, hid, hw]
    unfold dueF
    rw [List.find?_cons]
    show (bif decide (t < tm) then _ else (bif isLk (.agg [.int .i64 a, .int .i64 b, .bool c]) then (bif heldD (.agg [.int .i64 a, .int .i64 b, .bool c]) t then _ else _) else _)) = _
    rw [show isLk (.agg [.int .i64 a, .int .i64 b, .bool c]) = true from rfl, cond_true, show isDue t (.agg [.int .i64 tm, .int .u64 id, .agg [.int .i64 a, .int .i64 b, .bool c]]) = !(decide (t < tm) || heldD (.agg [.int .i64 a, .int .i64 b, .bool c]) t) from rfl]
    cases decide (t < tm) with
    | true => exact hn
    | false =>
      cases heldD (.agg [.int .i64 a, .int .i64 b, .bool c]) t with
      | true => exact hn
      | false => rfl
theorem c36 (l : List D) (o : D) (t : Int) (h : (rsC l && oC o) = true) : RetX (Γ mx) 36 [.sl 93 .any l, .d 53 o, .i .i64 t] [] (.tuple [.i .u64 (dueI l o t), .b (dueM l o t), .i .i64 (dueE l o)]) [] := by
  have hc := h
  simp only [Bool.and_eq_true] at h
  obtain ⟨hr, ho⟩ := h
  obtain ⟨k, c, ol, rfl, h1, h2⟩ := oC_ex ho
  obtain ⟨hol, hoa⟩ := vsC_eq h2
  cases hg : goodB l (.agg [.str k, .slice c ol]) with
  | false =>
    refine ret_goes (Γ := Γ mx) hP hZ h36_ok (by kernel_rfl) ⟨0, ?_⟩
    rw [r36, hc, dueI, dueM, dueE, hg]; rfl
  | true =>
    have hl8 : l.length ≤ 8 := by
      unfold goodB rsB at hg
      simp only [Bool.and_eq_true, decide_eq_true_eq] at hg
      exact hg.1.1
    obtain ⟨n, hn⟩ := g36 (mx := mx) (evsL l (.agg [.str k, .slice c ol])) t (evs_len l k c ol hl8 hol hoa) (ev_all l _) (evsL l (.agg [.str k, .slice c ol])) [] 0 rfl rfl
    refine ret_goes (Γ := Γ mx) hP hZ h36_ok (by kernel_rfl) ⟨n, ?_⟩
    rw [r36, hc, dueI, dueM, dueE, hg, hr, ho]
    simp only [cond_true]
    refine Eq.trans ?_ (hn.trans ?_)
    · rfl
    · cases dueF (evsL l (.agg [.str k, .slice c ol])) t <;> rfl
end Go.Proofs.YtjbemleloffafaaDoor.V

/- Rules: the context with the rules' words; a text split into a row of the caller's own; awake. -/
namespace Go.Proofs.YtjbemleloffafaaDoor.V
open Go
set_option maxRecDepth 100000
set_option linter.unusedVariables false
set_option linter.unusedSimpArgs false
def tFields : D := .agg [.str [112, 114, 101, 102, 105, 120, 61], .str [116, 97, 103, 115, 61], .str [100, 97, 121, 115, 61], .str [111, 108, 100, 61], .str [109, 97, 114, 107, 101, 114, 115, 61]]
def globsR (mx : Int) : Nat → Option (TypeId × D)
  | 0 => some (130, tFields)
  | 1 => some (177, tFirst)
  | 2 => some (180, tAcc)
  | 3 => some (3, .int .i64 mx)
  | _ => none
noncomputable def ΓR (mx : Int) : Ctx := { Γ mx with G := globsR mx, refs := [], outs := [46] }
variable {mx : Int}
theorem hPR : tabOk (ΓR mx).P = true := by kernel_rfl
theorem hZR : zeroOk (ΓR mx).P = true := by kernel_rfl
theorem hNR : ((ΓR mx).P.funcs.toList.all fun fn => !(fn.name == "runtime.NumGoroutine")) = true := by kernel_rfl
theorem globs_le {g : Nat} {t : TypeId} {x : D} (h : globs mx g = some (t, x)) : globsR mx g = some (t, x) := by
  match g, h with
  | 1, h => exact h
  | 2, h => exact h
  | 3, h => exact h
theorem RetX.big {g : FuncId} {args : List AV} {r : AV} (h : RetX (Γ mx) g args [] r []) (h0 : rootsOf (Γ mx).roots g = 0) : RetX (ΓR mx) g args [] r [] := by
  refine Ret.x fun w S vals hS hG ha => ?_
  refine (h.ret h0 w S vals hS ⟨fun g t x hg => hG.data g t x (globs_le hg), hG.ifs⟩ ha).mono ?_
  rintro v w' ⟨S', hl, hr⟩
  exact ⟨S', ⟨hl.same, hl.grow, hl.more, hl.new, hl.env⟩, hr⟩
theorem fs_strs {P : Program} {w : World} {S : Addr → Prop} {e : TypeId} (he : und P e = some .string) (h1 : P.cellsOf e = 1) : ∀ (l : List ByteArray), RepFs P w S (l.map fun s => D.str s.data.toList) (List.replicate l.length e) (l.map Value.string)
  | [] => by simp [RepFs]
  | s :: l => by
    rw [List.length_cons, List.replicate_succ]
    simp only [List.map_cons, RepFs]
    exact ⟨e, _, [.string s], l.map Value.string, rfl, rfl, by simp only [RepT]; exact ⟨he, s, rfl, rfl⟩, fs_strs he h1 l⟩
theorem max_cellR {w : World} {S : Addr → Prop} (h : GlobOK (ΓR mx) w S) : w.cell? ⟨3, 0, none⟩ = some (.int .i64 mx) := by
  obtain ⟨vs, h1, h2, _⟩ := h.data 3 3 (.int .i64 mx) rfl
  exact glob_int h1 h2
theorem split_ref (c : UInt8) (s : List UInt8) (h : s32 s = true) : RetX (ΓR mx) 46 [.s s, .s [c]] [] (.ref 9 0) [some (.arr 9 (splitC c s) false)] := by
  intro w S σ X vals hX hM ha
  simp only [RepAs, RepA] at ha
  obtain ⟨v, _, rfl, ⟨s, rfl, rfl⟩, v', _, rfl, ⟨u, hu, rfl⟩, rfl⟩ := ha
  obtain rfl := ba_eq hu
  rw [run_entered (P := (ΓR mx).P) (by kernel_rfl)]
  refine Calls.mono (Any.strings_Split Lg.lays146 (by kernel_rfl) s ⟨#[c]⟩ mx w (by simpa [s32] using h) (max_cellR hM.glob) (sep_ne c)) fun e w' ⟨he, hw⟩ => ?_
  have hl := Lib.splitB_all ⟨#[c]⟩ (sep_ne c) 0 _ s rfl
  have hd := Lib.splitB_data ⟨#[c]⟩ 0 (Lib.countB s ⟨#[c]⟩) s
  have hx : splitC c s.data.toList = (Lib.splitB ⟨#[c]⟩ 0 (Lib.countB s ⟨#[c]⟩) s).map fun b => D.str b.data.toList := by
    have : Lib.split s.data.toList [c] = (Lib.splitB ⟨#[c]⟩ 0 (Lib.countB s ⟨#[c]⟩) s).map (·.data.toList) := hd.symm
    unfold splitC
    rw [this, List.map_map]
    rfl
  have hn : (splitC c s.data.toList).length = Lib.countB s ⟨#[c]⟩ + 1 := by rw [hx, List.length_map, hl]
  have hfs := fs_strs (P := (ΓR mx).P) (w := w) (S := S) (e := 9) (by kernel_rfl) (by kernel_rfl) (Lib.splitB ⟨#[c]⟩ 0 (Lib.countB s ⟨#[c]⟩) s)
  obtain ⟨σ', t1, t2⟩ := newArr_ok (Γ := ΓR mx) (e := 9) (el := 9) (d := .string) (xs := splitC c s.data.toList) (cap := Lib.countB s ⟨#[c]⟩ + 1) (w' := w') (fr := (0, 0)) hPR hM false (by kernel_rfl) (by rw [hw]; rfl)
    (by rw [show (ΓR mx).P.cellsOf 9 = 1 from by kernel_rfl]; simp [hl]) (by rw [hn]; exact Nat.le_refl _)
    (vs := (Lib.splitB ⟨#[c]⟩ 0 (Lib.countB s ⟨#[c]⟩) s).map Value.string) (by rw [hx, List.length_map]; exact hfs) (fun j v hj => by simpa using hj) (hev := by rw [hw]; exact ⟨rfl, rfl⟩)
  refine ⟨_, he, S, σ', t1.ok, t1.keeps, ?_⟩
  rw [hn] at t2
  exact t2
def xSpl : List AV → Objs → Option (Bool × AV × Objs)
  | [.s s, .s [c]], [] => some (s32 s, .ref 9 0, [some (.arr 9 (splitC c s) false)])
  | _, _ => none
theorem xSpl_ok : SpecOK (ΓR mx) ⟨46, xSpl⟩ := by
  intro args obs r obs' hr
  change xSpl args obs = some (true, r, obs') at hr
  unfold xSpl at hr
  split at hr
  · simp only [Option.some.injEq, Prod.mk.injEq] at hr
    obtain ⟨h1, rfl, rfl⟩ := hr
    exact split_ref _ _ h1
  · exact absurd hr (by simp)
def HR : Handle := runS [⟨46, xSpl⟩, ⟨60, dat (sp1 short fun p => .tuple [.s (unS p), .i .i64 (unE p)])⟩, ⟨34, dat (sp1 short fun p => .tuple [.sl 80 .any (psL p), .i .i64 (psE p)])⟩, ⟨93, dat (spD1 93 rC fun r => .b (rGood r))⟩, ⟨36, dat (spLDt 93 53 (fun l o => rsC l && oC o) fun l o t => .tuple [.i .u64 (dueI l o t), .b (dueM l o t), .i .i64 (dueE l o)])⟩]
theorem hR_ok : CallsOK (ΓR mx) HR := specs_ok (.cons xSpl_ok (.cons (sp1_ok fun p h => (c60 p h).big (by kernel_rfl)) (.cons (sp1_ok fun p h => (c34 p h).big (by kernel_rfl)) (.cons (spD1_ok fun p h => (c93 p h).big (by kernel_rfl)) (.cons (spLDt_ok fun l o t h => (c36 l o t h).big (by kernel_rfl)) .nil)))))
end Go.Proofs.YtjbemleloffafaaDoor.V

/- Rules: the law of later moments, in the machine over values. Written by program in part. -/
namespace Go.Proofs.YtjbemleloffafaaDoor.V
open Go
set_option maxRecDepth 100000
set_option linter.unusedVariables false
set_option linter.unusedSimpArgs false
variable {mx : Int}
theorem awake_runR : callN (ΓR mx) HR 60 37 [] [] = some (true, .b true, []) := by kernel_rfl
theorem c37 (_ : true = true) : RetX (ΓR mx) 37 [] [] (.b true) [] := ret_run hPR hZR hNR hR_ok awake_runR
def H11R : Handle := runS [⟨36, dat (spLDt 93 53 (fun l o => rsC l && oC o) fun l o t => .tuple [.i .u64 (dueI l o t), .b (dueM l o t), .i .i64 (dueE l o)])⟩, ⟨37, dat (sp0 true (.b true))⟩]
theorem R11 (lab : Lab) (l : List D) (ok : List UInt8) (oc : Cp) (ov : List D) (t : Int) (u : Int) : evF (ΓR mx) H11R lab 11 [.sl 93 .any l, .d 53 (D.agg [D.str ok, D.slice oc ov]), .i .i64 t, .i .i64 u] [] =
  bif rsC l && oC (D.agg [D.str ok, D.slice oc ov]) then (bif rsC l && oC (D.agg [D.str ok, D.slice oc ov]) then (bif (dueE l (D.agg [D.str ok, D.slice oc ov])) != 0 then (some (.b ((dueE l (D.agg [D.str ok, D.slice oc ov])) == (dueE l (D.agg [D.str ok, D.slice oc ov]))), [])) else (bif (dueE l (D.agg [D.str ok, D.slice oc ov])) != 0 then (some (.b ((dueE l (D.agg [D.str ok, D.slice oc ov])) == (dueE l (D.agg [D.str ok, D.slice oc ov]))), [])) else (bif decide (u < t) then (some (.b ((dueE l (D.agg [D.str ok, D.slice oc ov])) == (dueE l (D.agg [D.str ok, D.slice oc ov]))), [])) else (lab (todoAt (ΓR mx) 11 6) ⟨[(2, .i .i64 t), (5, .ptr 0 [] 53), (9, .i .u64 (dueI l (D.agg [D.str ok, D.slice oc ov]) t)), (10, .b (dueM l (D.agg [D.str ok, D.slice oc ov]) t)), (12, .i .u64 (dueI l (D.agg [D.str ok, D.slice oc ov]) u)), (13, .b (dueM l (D.agg [D.str ok, D.slice oc ov]) u)), (15, .i .i64 0)], [some (.box 53 (.d 53 (D.agg [D.str ok, D.slice oc ov])))]⟩)))) else none) else none := by kernel_rfl
theorem R11_6a (lab : Lab) (n1 : Int) (n2 : Int) (b3 : Bool) (n4 : Int) (b5 : Bool) (n6 : Int) (s7 : List UInt8) (c8 : Cp) (l9 : List D) : evL (ΓR mx) H11R lab 11 6 ⟨[(2, .i .i64 n1), (5, .ptr 0 [] 53), (9, .i .u64 n2), (10, .b b3), (12, .i .u64 n4), (13, .b b5), (15, .i .i64 n6)], [some (.box 53 (.d 53 (D.agg [D.str s7, D.slice c8 l9])))]⟩ =
  bif decide (n6 < ((l9.length : Int))) then (idx l9 n6 fun y10 => dAgg y10 fun y11 => lCons y11 fun a12 r13 => dInt .u64 a12 fun n14 => lCons r13 fun a15 r16 => dBool a15 fun b17 => lCons r16 fun a18 r19 => dInt .i64 a18 fun n20 => lCons r19 fun a21 r22 => dInt .u64 a21 fun n23 => lCons r22 fun a24 r25 => dAgg a24 fun y26 => lCons r25 fun a27 r28 => dInt .i64 a27 fun n29 => lCons r28 fun a30 r31 => dAgg a30 fun y32 => lCons y32 fun a33 r34 => dInt .i64 a33 fun n35 => lCons r34 fun a36 r37 => dInt .i64 a36 fun n38 => lCons r37 fun a39 r40 => dBool a39 fun b41 => lNil r40 (lCons r31 fun a42 r43 => dSlice a42 fun c44 l45 => lNil r43 (bif n14 == n2 then (bif b41 then (some (.b false, [])) else (bif n35 != 0 then (bif decide (n1 < n38) then (some (.b false, [])) else (lab (todoAt (ΓR mx) 11 6) ⟨[(2, .i .i64 n1), (5, .ptr 0 [] 53), (9, .i .u64 n2), (10, .b b3), (12, .i .u64 n4), (13, .b b5), (15, .i .i64 (IntKind.wrap .i64 (n6 + 1)))], [some (.box 53 (.d 53 (D.agg [D.str s7, D.slice c8 l9])))]⟩)) else (lab (todoAt (ΓR mx) 11 6) ⟨[(2, .i .i64 n1), (5, .ptr 0 [] 53), (9, .i .u64 n2), (10, .b b3), (12, .i .u64 n4), (13, .b b5), (15, .i .i64 (IntKind.wrap .i64 (n6 + 1)))], [some (.box 53 (.d 53 (D.agg [D.str s7, D.slice c8 l9])))]⟩))) else (lab (todoAt (ΓR mx) 11 6) ⟨[(2, .i .i64 n1), (5, .ptr 0 [] 53), (9, .i .u64 n2), (10, .b b3), (12, .i .u64 n4), (13, .b b5), (15, .i .i64 (IntKind.wrap .i64 (n6 + 1)))], [some (.box 53 (.d 53 (D.agg [D.str s7, D.slice c8 l9])))]⟩)))) else (bif n2 != 0 then (bif n4 != 0 then (some (.b (decide (n4 ≤ n2)), [])) else (some (.b false, []))) else (bif !b3 then (some (.b true, [])) else (bif b5 then (some (.b true, [])) else (some (.b (n4 != 0), []))))) := by kernel_rfl
theorem h11_ok : CallsOK (ΓR mx) H11R := specs_ok (.cons (spLDt_ok fun l o t h => (c36 l o t h).big (by kernel_rfl)) (.cons (sp0_ok c37) .nil))
theorem g11 (t i1 i2 : Int) (m1 m2 : Bool) (k : List UInt8) (c : Cp) (ol : List D) (hol : ol.length ≤ 8388608)
    (hf : ∀ v ∈ vsOf ol, v.id = i1 → heldL v t = false) (hq : (bif i1 != 0 then (bif i2 != 0 then decide (i2 ≤ i1) else false) else bif !m1 then true else bif m2 then true else i2 != 0) = true) : ∀ (rest : List Ver) (pre : List D) (i : Int), (∀ v ∈ rest, v ∈ vsOf ol) → ol = pre ++ rest.map vD → i = (pre.length : Int) →
    Goes (ΓR mx) H11R 11 6 ⟨[(2, .i .i64 t), (5, .ptr 0 [] 53), (9, .i .u64 i1), (10, .b m1), (12, .i .u64 i2), (13, .b m2), (15, .i .i64 i)], [some (.box 53 (.d 53 (D.agg [D.str k, D.slice c ol])))]⟩ (.b true, [])
  | [], pre, i, hm, he, hi => by
    subst hi
    refine Goes.step ⟨0, ?_⟩
    rw [R11_6a, decide_eq_false (show ¬ (pre.length : Int) < (ol.length : Int) by rw [he]; simp), cond_false]
    revert hq
    cases i1 != 0 with
    | true =>
      cases i2 != 0 with
      | true =>
        intro hq
        simp only [cond_true] at hq ⊢
        rw [hq]
      | false => intro hq; exact absurd hq (by simp)
    | false =>
      cases m1 <;> cases m2 <;> cases i2 != 0 <;> intro hq <;> first | rfl | exact absurd hq (by simp)
  | v :: r, pre, i, hm, he, hi => by
    subst hi
    have hlen : ol.length = pre.length + (r.length + 1) := by rw [he]; simp
    have hid : ∀ {R : Type} (K : D → Option R), idx ol (pre.length : Int) K = K (vD v) := fun K => by rw [he]; exact idx_mid pre (r.map vD) _ K
    have hw : IntKind.wrap .i64 ((pre.length : Int) + 1) = (pre.length : Int) + 1 := wrapI (by omega) (by omega)
    obtain ⟨n, hn⟩ := g11 t i1 i2 m1 m2 k c ol hol hf hq r (pre ++ [vD v]) ((pre.length : Int) + 1) (fun w hw => hm w (List.mem_cons_of_mem _ hw)) (by rw [he]; simp) (by simp)
    have hv := hf v (hm v (List.mem_cons_self ..))
    refine Goes.step ⟨n, ?_⟩
    rw [R11_6a, decide_eq_true (show (pre.length : Int) < (ol.length : Int) by omega), cond_true, hid, hw]
    show (bif v.id == i1 then (bif v.ho then _ else (bif v.md != 0 then (bif decide (t < v.un) then _ else _) else _)) else _) = _
    cases hb : v.id == i1 with
    | false => exact hn
    | true =>
      have h := hv (by simpa using hb)
      unfold heldL at h
      simp only [Bool.or_eq_false_iff, Bool.and_eq_false_iff] at h
      rw [h.1]
      rcases h.2 with h2 | h2
      · rw [h2]; exact hn
      · rw [h2]
        cases v.md != 0 <;> exact hn
theorem law11 (l : List D) (o : D) (t u : Int) (h : (rsC l && oC o) = true) : RetX (ΓR mx) 11 [.sl 93 .any l, .d 53 o, .i .i64 t, .i .i64 u] [] (.b true) [] := by
  have ho := h
  simp only [Bool.and_eq_true] at ho
  obtain ⟨k, c, ol, rfl, h1, h2⟩ := oC_ex ho.2
  obtain ⟨hol, hoa⟩ := vsC_eq h2
  cases hg : goodB l (.agg [.str k, .slice c ol]) with
  | false =>
    refine ret_goes (Γ := ΓR mx) hPR hZR h11_ok (by kernel_rfl) ⟨0, ?_⟩
    rw [R11, h, dueE, hg]; rfl
  | true =>
    by_cases hu : u < t
    · refine ret_goes (Γ := ΓR mx) hPR hZR h11_ok (by kernel_rfl) ⟨0, ?_⟩
      rw [R11, h, dueE, hg, decide_eq_true hu]; rfl
    · have hl := due_law (rl := l) (o := .agg [.str k, .slice c ol]) (t := t) (u := u) hg (by omega)
      have hf := due_free (rl := l) (o := .agg [.str k, .slice c ol]) (t := t) hg
      obtain ⟨vs, e1, e2⟩ := vs_ex hoa
      obtain ⟨n, hn⟩ := g11 (mx := mx) t (dueI l (.agg [.str k, .slice c ol]) t) (dueI l (.agg [.str k, .slice c ol]) u) (dueM l (.agg [.str k, .slice c ol]) t) (dueM l (.agg [.str k, .slice c ol]) u) k c ol hol hf (by
        by_cases h0 : dueI l (.agg [.str k, .slice c ol]) t = 0
        · rw [h0]
          cases hm : dueM l (.agg [.str k, .slice c ol]) t with
          | false => rfl
          | true =>
            rcases hl.2 h0 hm with h3 | h3
            · rw [h3]; rfl
            · rw [show (dueI l (.agg [.str k, .slice c ol]) u != 0) = true by simpa using h3]
              cases dueM l (.agg [.str k, .slice c ol]) u <;> rfl
        · have h3 := hl.1 h0
          rw [show (dueI l (.agg [.str k, .slice c ol]) t != 0) = true by simpa using h0, show (dueI l (.agg [.str k, .slice c ol]) u != 0) = true by simpa using h3.1, decide_eq_true h3.2]
          rfl) vs [] 0 (by rw [e2]; exact fun v hv => hv) e1 rfl
      refine ret_goes (Γ := ΓR mx) hPR hZR h11_ok (by kernel_rfl) ⟨n, ?_⟩
      rw [R11, h, dueE, hg, decide_eq_false hu]
      exact hn
end Go.Proofs.YtjbemleloffafaaDoor.V
