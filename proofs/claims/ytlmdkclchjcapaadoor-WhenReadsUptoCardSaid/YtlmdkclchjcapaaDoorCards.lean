/-
  DERIVED. GIVEN WITH THE SEED: THE CARDS: each row of YtlmdkclchjcapaaDoorRows.lean that lists a variable, with what it lists TIED to the program's text (the seventh form; the later family's looks); each row that meets fmt, with fmt's text TOLD by the authors' own Lean function (tested against real Go, not proved from fmt's source: count such statements apart). THE CARD IS WHAT COUNTS. Prove the row's statement (the work); the ties are given (YtlmdkclchjcapaaDoorTie.lean); close each card by the builder's one call (the guide's Derived/Test/ToyasCard.lean, 'card_holds'). Laid BY PROGRAM, IN A SANDBOX (cutbox-door.mjs). By AI agents, Wed Nov 11 2026. No macro, syntax, notation, axiom, sorry.
-/
import Derived.Test.YtlmdkclchjcapaaDoorRows
import GoSem.ClaimSeven
namespace Go.Proofs.YtlmdkclchjcapaaDoor
namespace Rows

/-- THE TIED CARD OF 'chartularylaw05.WhenSeconds'. -/
def whenSecondsCard : Claim7 := { stood := { row := whenSecondsRow, standIns := [], harness := (true, "a405bc92920a437d003aae5fc99c22cf22b6ba83bc4672b991dd53c78a50f2f2"), looks := true }, kinds := [], alts := [], laidByText := true, laidKinds := [.data, .data, .data, .sentinel, .sentinel], laidTests := true, laidLooks := .later }
def WhenSecondsCardSaid : Prop := Claim7.holds Tryd.pinned (.plain (OpenSpec.ofChange whenSecondsSpec)) whenSecondsCard

/-- THE TIED CARD OF 'chartularylaw05.WhenTexts'. -/
def whenTextsCard : Claim7 := { stood := { row := whenTextsRow, standIns := [], harness := (true, "a405bc92920a437d003aae5fc99c22cf22b6ba83bc4672b991dd53c78a50f2f2"), looks := true }, kinds := [], alts := [], laidByText := true, laidKinds := [.data, .data, .data, .sentinel, .sentinel], laidTests := true, laidLooks := .later }
def WhenTextsCardSaid : Prop := Claim7.holds Tryd.pinned (.plain (OpenSpec.ofChange whenTextsSpec)) whenTextsCard

/-- THE TIED CARD OF 'chartularylaw05.WhenDays'. -/
def whenDaysCard : Claim7 := { stood := { row := whenDaysRow, standIns := [], harness := (true, "a405bc92920a437d003aae5fc99c22cf22b6ba83bc4672b991dd53c78a50f2f2"), looks := true }, kinds := [], alts := [], laidByText := true, laidKinds := [.data, .data, .data, .sentinel, .sentinel], laidTests := true, laidLooks := .later }
def WhenDaysCardSaid : Prop := Claim7.holds Tryd.pinned (.plain (OpenSpec.ofChange whenDaysSpec)) whenDaysCard

/-- THE TIED CARD OF 'chartularylaw05.WhenBack'. -/
def whenBackCard : Claim7 := { stood := { row := whenBackRow, standIns := [], harness := (true, "a405bc92920a437d003aae5fc99c22cf22b6ba83bc4672b991dd53c78a50f2f2"), looks := true }, kinds := [], alts := [], laidByText := true, laidKinds := [.data, .data, .data, .sentinel, .sentinel], laidTests := true, laidLooks := .later }
def WhenBackCardSaid : Prop := Claim7.holds Tryd.pinned (.plain (OpenSpec.ofChange whenBackSpec)) whenBackCard

/-- THE TIED CARD OF 'chartularylaw05.WhenWeeks'. -/
def whenWeeksCard : Claim7 := { stood := { row := whenWeeksRow, standIns := [], harness := (true, "a405bc92920a437d003aae5fc99c22cf22b6ba83bc4672b991dd53c78a50f2f2"), looks := true }, kinds := [], alts := [], laidByText := true, laidKinds := [.data, .data, .data, .sentinel, .sentinel], laidTests := true, laidLooks := .later }
def WhenWeeksCardSaid : Prop := Claim7.holds Tryd.pinned (.plain (OpenSpec.ofChange whenWeeksSpec)) whenWeeksCard

/-- THE TIED CARD OF 'chartularylaw05.WhenSpans'. -/
def whenSpansCard : Claim7 := { stood := { row := whenSpansRow, standIns := [], harness := (true, "a405bc92920a437d003aae5fc99c22cf22b6ba83bc4672b991dd53c78a50f2f2"), looks := true }, kinds := [], alts := [], laidByText := true, laidKinds := [.data, .data, .data, .sentinel, .sentinel, .data], laidTests := true, laidLooks := .later }
def WhenSpansCardSaid : Prop := Claim7.holds Tryd.pinned (.plain (OpenSpec.ofChange whenSpansSpec)) whenSpansCard

/-- THE TIED CARD OF 'chartularylaw05.WhenReads'. -/
def whenReadsCard : Claim7 := { stood := { row := whenReadsRow, standIns := [], harness := (true, "a405bc92920a437d003aae5fc99c22cf22b6ba83bc4672b991dd53c78a50f2f2"), looks := true }, kinds := [], alts := [], laidByText := true, laidKinds := [.data, .data, .data, .sentinel, .sentinel, .data], laidTests := true, laidLooks := .later }
def WhenReadsCardSaid : Prop := Claim7.holds Tryd.pinned (.plain (OpenSpec.ofChange whenReadsSpec)) whenReadsCard

/-- THE SECOND FORM's CARD OF 'chartularylaw05.WhenSeconds'. -/
def whenSecondsUptoCard : Claim7 := { stood := { row := whenSecondsUptoRow, standIns := [], harness := (true, "a405bc92920a437d003aae5fc99c22cf22b6ba83bc4672b991dd53c78a50f2f2"), looks := true }, kinds := [], alts := [], laidByText := true, laidKinds := [.data, .data, .data, .sentinel, .sentinel], laidTests := true, laidLooks := .later }
def WhenSecondsUptoCardSaid : Prop := Claim7.holds Tryd.pinned (.plain (OpenSpec.upto whenSecondsSpec)) whenSecondsUptoCard

/-- THE SECOND FORM's CARD OF 'chartularylaw05.WhenTexts'. -/
def whenTextsUptoCard : Claim7 := { stood := { row := whenTextsUptoRow, standIns := [], harness := (true, "a405bc92920a437d003aae5fc99c22cf22b6ba83bc4672b991dd53c78a50f2f2"), looks := true }, kinds := [], alts := [], laidByText := true, laidKinds := [.data, .data, .data, .sentinel, .sentinel], laidTests := true, laidLooks := .later }
def WhenTextsUptoCardSaid : Prop := Claim7.holds Tryd.pinned (.plain (OpenSpec.upto whenTextsSpec)) whenTextsUptoCard

/-- THE SECOND FORM's CARD OF 'chartularylaw05.WhenDays'. -/
def whenDaysUptoCard : Claim7 := { stood := { row := whenDaysUptoRow, standIns := [], harness := (true, "a405bc92920a437d003aae5fc99c22cf22b6ba83bc4672b991dd53c78a50f2f2"), looks := true }, kinds := [], alts := [], laidByText := true, laidKinds := [.data, .data, .data, .sentinel, .sentinel], laidTests := true, laidLooks := .later }
def WhenDaysUptoCardSaid : Prop := Claim7.holds Tryd.pinned (.plain (OpenSpec.upto whenDaysSpec)) whenDaysUptoCard

/-- THE SECOND FORM's CARD OF 'chartularylaw05.WhenBack'. -/
def whenBackUptoCard : Claim7 := { stood := { row := whenBackUptoRow, standIns := [], harness := (true, "a405bc92920a437d003aae5fc99c22cf22b6ba83bc4672b991dd53c78a50f2f2"), looks := true }, kinds := [], alts := [], laidByText := true, laidKinds := [.data, .data, .data, .sentinel, .sentinel], laidTests := true, laidLooks := .later }
def WhenBackUptoCardSaid : Prop := Claim7.holds Tryd.pinned (.plain (OpenSpec.upto whenBackSpec)) whenBackUptoCard

/-- THE SECOND FORM's CARD OF 'chartularylaw05.WhenWeeks'. -/
def whenWeeksUptoCard : Claim7 := { stood := { row := whenWeeksUptoRow, standIns := [], harness := (true, "a405bc92920a437d003aae5fc99c22cf22b6ba83bc4672b991dd53c78a50f2f2"), looks := true }, kinds := [], alts := [], laidByText := true, laidKinds := [.data, .data, .data, .sentinel, .sentinel], laidTests := true, laidLooks := .later }
def WhenWeeksUptoCardSaid : Prop := Claim7.holds Tryd.pinned (.plain (OpenSpec.upto whenWeeksSpec)) whenWeeksUptoCard

/-- THE SECOND FORM's CARD OF 'chartularylaw05.WhenSpans'. -/
def whenSpansUptoCard : Claim7 := { stood := { row := whenSpansUptoRow, standIns := [], harness := (true, "a405bc92920a437d003aae5fc99c22cf22b6ba83bc4672b991dd53c78a50f2f2"), looks := true }, kinds := [], alts := [], laidByText := true, laidKinds := [.data, .data, .data, .sentinel, .sentinel, .data], laidTests := true, laidLooks := .later }
def WhenSpansUptoCardSaid : Prop := Claim7.holds Tryd.pinned (.plain (OpenSpec.upto whenSpansSpec)) whenSpansUptoCard

/-- THE SECOND FORM's CARD OF 'chartularylaw05.WhenReads'. -/
def whenReadsUptoCard : Claim7 := { stood := { row := whenReadsUptoRow, standIns := [], harness := (true, "a405bc92920a437d003aae5fc99c22cf22b6ba83bc4672b991dd53c78a50f2f2"), looks := true }, kinds := [], alts := [], laidByText := true, laidKinds := [.data, .data, .data, .sentinel, .sentinel, .data], laidTests := true, laidLooks := .later }
def WhenReadsUptoCardSaid : Prop := Claim7.holds Tryd.pinned (.plain (OpenSpec.upto whenReadsSpec)) whenReadsUptoCard
end Rows
end Go.Proofs.YtlmdkclchjcapaaDoor
