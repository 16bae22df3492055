/- LabelNext: what the machine over values makes of its text. Written by program. -/
import Derived.Test.YtdelibcanngipaaDoorLbD
namespace Go.Proofs.YtdelibcanngipaaDoor.V
open Go
set_option maxRecDepth 100000
set_option linter.unusedVariables false
def shortB (l : List UInt8) : Bool := decide (l.length ≤ 1125899906842624)
def Hn : Handle := runS [⟨18, dat (sp1 shortB fun l => .tuple [.s (nextS l), .b (nextB l)])⟩, ⟨9, dat (sp0 true (.b true))⟩, ⟨22, dat (sp2 (fun _ _ => true) fun s p => .b (begins s p))⟩]
theorem r7 (lab : Lab) (s : List UInt8) (t : List UInt8) : evF Γ Hn lab 7 [.s s, .s t] [] =
  bif shortB s then (bif !(nextB s) then (bif (nextS s) == ([] : List UInt8) then (bif begins t s then (some (.b true, [])) else (some (.b (lessB t s), []))) else (some (.b false, []))) else (bif !(lessB (nextS s) s || (nextS s) == s) then (bif !lessB t s then (some (.b ((begins t s) == (lessB t (nextS s))), [])) else (some (.b ((begins t s) == false), []))) else (some (.b false, [])))) else none := by kernel_rfl
end Go.Proofs.YtdelibcanngipaaDoor.V
