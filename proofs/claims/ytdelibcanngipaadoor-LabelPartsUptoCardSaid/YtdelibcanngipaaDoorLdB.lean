/- LabelGroups, LabelParts: what the machine over values makes of their texts and of those that they call. Written by program. -/
import Derived.Test.YtdelibcanngipaaDoorLdA
import Derived.Test.YtdelibcanngipaaDoorLcG
namespace Go.Proofs.YtdelibcanngipaaDoor.V
open Go
set_option maxRecDepth 100000
set_option linter.unusedVariables false
def shortB2 (l : List UInt8) : Bool := decide (l.length ≤ 1125899906842624)
def cutP (s p : List UInt8) : List UInt8 := if begins s p then s.drop p.length else s
def cutPA (s p : List UInt8) : AV := .tuple [.s (cutP s p), .b (begins s p)]
def s31 (s p m : List UInt8) : Bool := decide (s.length ≤ 1073741824) && decide (p.length ≤ 1073741824) && decide (m.length ≤ 1073741824)
/-- the group, if there is one -/
def grpV (s p m : List UInt8) : Option (List UInt8) := if m = [] then none else if begins s p = true then (if 0 ≤ Lib.index (s.drop p.length) m then some (p ++ (s.drop p.length).take (Lib.index (s.drop p.length) m).toNat ++ m) else none) else none
def grpS (s p m : List UInt8) : List UInt8 := (grpV s p m).getD []
def grpB (s p m : List UInt8) : Bool := (grpV s p m).isSome
def grpA (s p m : List UInt8) : AV := .tuple [.s (grpS s p m), .b (grpB s p m)]
def tt2 (_ _ : List UInt8) : Bool := true
def Hg1 : Handle := runS [⟨54, dat (sp2 tt2 fun s p => .b (begins s p))⟩]
def Hg2 : Handle := runS [⟨41, dat (sp2 tt2 cutPA)⟩]
def Hg3 : Handle := runS [⟨34, dat (sp2 tt2 cutPA)⟩, ⟨35, dat (sp2 (fun s _ => s32 s) cutA)⟩]
def Hg4 : Handle := runS [⟨22, dat (sp2 tt2 fun s p => .b (begins s p))⟩]
def nextA (s : List UInt8) : AV := .tuple [.s (nextS s), .b (nextB s)]
def Hg5 : Handle := runS [⟨18, dat (sp1 shortB2 nextA)⟩, ⟨19, dat (sp1 shortB2 nextA)⟩, ⟨20, dat (sp3 s31 grpA)⟩, ⟨21, dat (sp3 s31 grpA)⟩, ⟨9, dat (sp0 true (.b true))⟩]
def Hg8 : Handle := runS [⟨20, dat (sp3 s31 grpA)⟩, ⟨9, dat (sp0 true (.b true))⟩, ⟨14, dat (sp1 short40 unA)⟩, ⟨16, dat (sp1 short40 fun s => .s (escV s))⟩, ⟨22, dat (sp2 tt2 fun s p => .b (begins s p))⟩]
theorem r54 (call : Handle) (lab : Lab) (s : List UInt8) (p : List UInt8) : evF Γ call lab 54 [.s s, .s p] [] =
  bif decide (((List.length s : Int)) ≥ ((List.length p : Int))) then (bif decide ((0:Int) ≤ ((List.length p : Int))) && decide (((List.length p : Int)) ≤ (List.length s : Int)) then (some (.b ((List.take ((Int.toNat ((List.length p : Int))) - 0) (List.drop 0 s)) == p), [])) else none) else (some (.b false, [])) := by kernel_rfl
theorem r41 (lab : Lab) (s : List UInt8) (p : List UInt8) : evF Γ Hg1 lab 41 [.s s, .s p] [] =
  bif !(begins s p) then (some (.tuple [.s s, .b false], [])) else (bif decide ((0:Int) ≤ ((List.length p : Int))) && decide (((List.length p : Int)) ≤ (List.length s : Int)) then (some (.tuple [.s (List.take ((List.length s) - (Int.toNat ((List.length p : Int)))) (List.drop (Int.toNat ((List.length p : Int))) s)), .b true], [])) else none) := by kernel_rfl
theorem r34 (lab : Lab) (s : List UInt8) (p : List UInt8) : evF Γ Hg2 lab 34 [.s s, .s p] [] =
  some (.tuple [.s (cutP s p), .b (begins s p)], []) := by kernel_rfl
theorem r20 (mx : Int) (lab : Lab) (s : List UInt8) (p : List UInt8) (m : List UInt8) : evF (Γm mx) Hg3 lab 20 [.s s, .s p, .s m] [] =
  bif !(begins s p) then (some (.tuple [.s ([] : List UInt8), .b false], [])) else (bif m == ([] : List UInt8) then (some (.tuple [.s ([] : List UInt8), .b false], [])) else (bif s32 (cutP s p) then (bif !((Lib.cut (cutP s p) m).2.2) then (some (.tuple [.s ([] : List UInt8), .b false], [])) else (bif decide (List.length p + List.length ((Lib.cut (cutP s p) m).1) ≤ maxStr) then (bif decide (List.length (p ++ ((Lib.cut (cutP s p) m).1)) + List.length m ≤ maxStr) then (some (.tuple [.s ((p ++ ((Lib.cut (cutP s p) m).1)) ++ m), .b true], [])) else none) else none)) else none)) := by kernel_rfl
theorem r19 (call : Handle) (lab : Lab) (s : List UInt8) : evF Γ call lab 19 [.s s] [] =
  lab (todoAt Γ 19 2) ⟨[(0, .s s), (4, .i .i64 ((List.length s : Int)))], []⟩ := by kernel_rfl
theorem r19_2a (call : Handle) (lab : Lab) (s1 : List UInt8) (n2 : Int) : evL Γ call lab 19 2 ⟨[(0, .s s1), (4, .i .i64 n2)], []⟩ =
  bif decide (n2 > 0) then (idx s1 (IntKind.wrap .i64 (n2 - 1)) fun c3 => bif ((c3.toNat : Int)) != 255 then (bif decide ((0:Int) ≤ (IntKind.wrap .i64 (n2 - 1))) && decide ((IntKind.wrap .i64 (n2 - 1)) ≤ (List.length s1 : Int)) then (idx s1 (IntKind.wrap .i64 (n2 - 1)) fun c4 => kBytes [D.int .u8 (IntKind.wrap .u8 (((c4.toNat : Int)) + 1))] fun s5 => bif decide (List.length (List.take ((Int.toNat (IntKind.wrap .i64 (n2 - 1))) - 0) (List.drop 0 s1)) + List.length s5 ≤ maxStr) then (some (.tuple [.s ((List.take ((Int.toNat (IntKind.wrap .i64 (n2 - 1))) - 0) (List.drop 0 s1)) ++ s5), .b true], [])) else none) else none) else (lab (todoAt Γ 19 2) ⟨[(0, .s s1), (4, .i .i64 (IntKind.wrap .i64 (n2 - 1)))], []⟩)) else (some (.tuple [.s ([] : List UInt8), .b false], [])) := by kernel_rfl
theorem r21 (lab : Lab) (s : List UInt8) (p : List UInt8) (m : List UInt8) : evF Γ Hg4 lab 21 [.s s, .s p, .s m] [] =
  bif m == ([] : List UInt8) then (some (.tuple [.s ([] : List UInt8), .b false], [])) else (bif !(begins s p) then (some (.tuple [.s ([] : List UInt8), .b false], [])) else (lab (todoAt Γ 21 4) ⟨[(0, .s s), (2, .s m), (8, .i .i64 ((List.length p : Int)))], []⟩)) := by kernel_rfl
theorem r21_4a (lab : Lab) (s1 : List UInt8) (s2 : List UInt8) (n3 : Int) : evL Γ Hg4 lab 21 4 ⟨[(0, .s s1), (2, .s s2), (8, .i .i64 n3)], []⟩ =
  bif decide (n3 < ((List.length s1 : Int))) then (bif decide ((0:Int) ≤ n3) && decide (n3 ≤ (List.length s1 : Int)) then (bif begins (List.take ((List.length s1) - (Int.toNat n3)) (List.drop (Int.toNat n3) s1)) s2 then (bif decide ((0:Int) ≤ n3) && decide (n3 ≤ (List.length s1 : Int)) then (bif decide (List.length (List.take ((Int.toNat n3) - 0) (List.drop 0 s1)) + List.length s2 ≤ maxStr) then (some (.tuple [.s ((List.take ((Int.toNat n3) - 0) (List.drop 0 s1)) ++ s2), .b true], [])) else none) else none) else (lab (todoAt Γ 21 4) ⟨[(0, .s s1), (2, .s s2), (8, .i .i64 (IntKind.wrap .i64 (n3 + 1)))], []⟩)) else none) else (some (.tuple [.s ([] : List UInt8), .b false], [])) := by kernel_rfl
theorem r5 (mx : Int) (lab : Lab) (s : List UInt8) (p : List UInt8) (m : List UInt8) : evF (Γm mx) Hg5 lab 5 [.s s, .s p, .s m] [] =
  bif shortB2 s then (bif shortB2 s then (bif s31 s p m then (bif s31 s p m then (bif (nextS s) == (nextS s) then (bif (nextB s) == (nextB s) then (bif (grpS s p m) == (grpS s p m) then (some (.b ((grpB s p m) == (grpB s p m)), [])) else (some (.b false, []))) else (some (.b false, []))) else (some (.b false, []))) else none) else none) else none) else none := by kernel_rfl
theorem r8 (mx : Int) (lab : Lab) (s : List UInt8) (p : List UInt8) (m : List UInt8) : evF (Γm mx) Hg8 lab 8 [.s s, .s p, .s m] [] =
  bif s31 s p m then (bif !(grpB s p m) then (some (.b ((grpS s p m) == ([] : List UInt8)), [])) else (bif s31 (grpS s p m) p m then (bif short40 (grpS s p m) then (bif short40 (escV (grpS s p m)) then (bif begins s (grpS s p m) then (bif begins (grpS s p m) p then (bif decide (((List.length (grpS s p m) : Int)) ≥ (IntKind.wrap .i64 (((List.length p : Int)) + ((List.length m : Int))))) then (bif decide ((0:Int) ≤ (IntKind.wrap .i64 (((List.length (grpS s p m) : Int)) - ((List.length m : Int))))) && decide ((IntKind.wrap .i64 (((List.length (grpS s p m) : Int)) - ((List.length m : Int)))) ≤ (List.length (grpS s p m) : Int)) then (bif (List.take ((List.length (grpS s p m)) - (Int.toNat (IntKind.wrap .i64 (((List.length (grpS s p m) : Int)) - ((List.length m : Int)))))) (List.drop (Int.toNat (IntKind.wrap .i64 (((List.length (grpS s p m) : Int)) - ((List.length m : Int))))) (grpS s p m))) == m then (bif grpB (grpS s p m) p m then (bif (grpS (grpS s p m) p m) == (grpS s p m) then (some (.b ((unE (escV (grpS s p m))) != 5), [])) else (some (.b false, []))) else (some (.b false, []))) else (some (.b false, []))) else none) else (some (.b false, []))) else (some (.b false, []))) else (some (.b false, []))) else none) else none) else none)) else none := by kernel_rfl
end Go.Proofs.YtdelibcanngipaaDoor.V
