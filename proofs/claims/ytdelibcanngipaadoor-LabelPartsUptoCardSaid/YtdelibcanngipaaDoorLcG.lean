/- LabelEscapes, LabelBack: what the machine over values makes of their texts. Written by program. -/
import Derived.Test.YtdelibcanngipaaDoorLcF
namespace Go.Proofs.YtdelibcanngipaaDoor.V
open Go
set_option maxRecDepth 100000
set_option linter.unusedVariables false
def short40 (l : List UInt8) : Bool := decide (l.length ≤ 1099511627776)
def unA (s : List UInt8) : AV := .tuple [.s (unS s), .i .i64 (unE s)]
def Hle : Handle := runS [⟨9, dat (sp0 true (.b true))⟩, ⟨14, dat (sp1 short40 unA)⟩, ⟨15, dat (sp1 short40 unA)⟩, ⟨16, dat (sp1 short40 fun s => .s (escV s))⟩, ⟨17, dat (sp1 short40 fun s => .s (escV s))⟩]
theorem r4 (lab : Lab) (s : List UInt8) : evF Γ Hle lab 4 [.s s] [] =
  bif short40 s then (bif short40 s then (bif short40 s then (bif short40 s then (bif (escV s) == (escV s) then (bif (unS s) == (unS s) then (some (.b ((unE s) == (unE s)), [])) else (some (.b false, []))) else (some (.b false, []))) else none) else none) else none) else none := by kernel_rfl
theorem r6 (lab : Lab) (s : List UInt8) : evF Γ Hle lab 6 [.s s] [] =
  bif short40 s then (bif short40 (escV s) then (lab (todoAt Γ 6 4) ⟨[(0, .s s), (3, .s (escV s)), (4, .s (unS (escV s))), (5, .i .i64 (unE (escV s))), (6, .i .i64 0)], []⟩) else none) else none := by kernel_rfl
theorem r6_4a (lab : Lab) (s1 : List UInt8) (s2 : List UInt8) (s3 : List UInt8) (n4 : Int) (n5 : Int) : evL Γ Hle lab 6 4 ⟨[(0, .s s1), (3, .s s2), (4, .s s3), (5, .i .i64 n4), (6, .i .i64 n5)], []⟩ =
  bif decide (n5 < ((List.length s2 : Int))) then (idx s2 n5 fun c6 => bif decide (((c6.toNat : Int)) ≤ 32) then (some (.b false, [])) else (idx s2 n5 fun c7 => bif ((c7.toNat : Int)) == 61 then (some (.b false, [])) else (idx s2 n5 fun c8 => bif ((c8.toNat : Int)) == 38 then (some (.b false, [])) else (idx s2 n5 fun c9 => bif decide (((c9.toNat : Int)) > 126) then (some (.b false, [])) else (lab (todoAt Γ 6 4) ⟨[(0, .s s1), (3, .s s2), (4, .s s3), (5, .i .i64 n4), (6, .i .i64 (IntKind.wrap .i64 (n5 + 1)))], []⟩))))) else (bif short40 s1 then (bif n4 == 0 then (bif s3 == s1 then (bif (unE s1) != 0 then (some (.b true, [])) else (bif short40 (unS s1) then (some (.b ((escV (unS s1)) == s1), [])) else none)) else (some (.b false, []))) else (some (.b false, []))) else none) := by kernel_rfl
end Go.Proofs.YtdelibcanngipaaDoor.V
