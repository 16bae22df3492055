/-
  DERIVED. GIVEN WITH THE SEED: THE CARDS: each row of YtdelibcanngipaaDoorRows.lean that lists a variable, with what it lists TIED to the program's text (the seventh form; the later family's looks); each row that meets fmt, with fmt's text TOLD by the authors' own Lean function (tested against real Go, not proved from fmt's source: count such statements apart). THE CARD IS WHAT COUNTS. Prove the row's statement (the work); the ties are given (YtdelibcanngipaaDoorTie.lean); close each card by the builder's one call (the guide's Derived/Test/ToyasCard.lean, 'card_holds'). Laid BY PROGRAM, IN A SANDBOX (cutbox-door.mjs). By AI agents, Wed Nov 11 2026. No macro, syntax, notation, axiom, sorry.
-/
import Derived.Test.YtdelibcanngipaaDoorRows
import GoSem.ClaimSeven
namespace Go.Proofs.YtdelibcanngipaaDoor
namespace Rows

/-- THE TIED CARD OF 'chartularylaw06.LabelNames'. -/
def labelNamesCard : Claim7 := { stood := { row := labelNamesRow, standIns := [], harness := (true, "c4f848ccaaa33a4b4eaee7db841420f7c3b440ab7b029de12a174b5d4fb2e726"), looks := false }, kinds := [], alts := [], laidByText := true, laidKinds := [.data, .pinned], laidTests := true, laidLooks := .later }
def LabelNamesCardSaid : Prop := Claim7.holds Tryd.pinned (.plain (OpenSpec.ofChange labelNamesSpec)) labelNamesCard

/-- THE TIED CARD OF 'chartularylaw06.LabelEscapes'. -/
def labelEscapesCard : Claim7 := { stood := { row := labelEscapesRow, standIns := [], harness := (true, "c4f848ccaaa33a4b4eaee7db841420f7c3b440ab7b029de12a174b5d4fb2e726"), looks := false }, kinds := [], alts := [], laidByText := true, laidKinds := [.data, .pinned], laidTests := true, laidLooks := .later }
def LabelEscapesCardSaid : Prop := Claim7.holds Tryd.pinned (.plain (OpenSpec.ofChange labelEscapesSpec)) labelEscapesCard

/-- THE TIED CARD OF 'chartularylaw06.LabelGroups'. -/
def labelGroupsCard : Claim7 := { stood := { row := labelGroupsRow, standIns := [], harness := (true, "c4f848ccaaa33a4b4eaee7db841420f7c3b440ab7b029de12a174b5d4fb2e726"), looks := false }, kinds := [], alts := [], laidByText := true, laidKinds := [.data, .pinned], laidTests := true, laidLooks := .later }
def LabelGroupsCardSaid : Prop := Claim7.holds Tryd.pinned (.plain (OpenSpec.ofChange labelGroupsSpec)) labelGroupsCard

/-- THE TIED CARD OF 'chartularylaw06.LabelBack'. -/
def labelBackCard : Claim7 := { stood := { row := labelBackRow, standIns := [], harness := (true, "c4f848ccaaa33a4b4eaee7db841420f7c3b440ab7b029de12a174b5d4fb2e726"), looks := false }, kinds := [], alts := [], laidByText := true, laidKinds := [.data, .pinned], laidTests := true, laidLooks := .later }
def LabelBackCardSaid : Prop := Claim7.holds Tryd.pinned (.plain (OpenSpec.ofChange labelBackSpec)) labelBackCard

/-- THE TIED CARD OF 'chartularylaw06.LabelNext'. -/
def labelNextCard : Claim7 := { stood := { row := labelNextRow, standIns := [], harness := (true, "c4f848ccaaa33a4b4eaee7db841420f7c3b440ab7b029de12a174b5d4fb2e726"), looks := false }, kinds := [], alts := [], laidByText := true, laidKinds := [.data, .pinned], laidTests := true, laidLooks := .later }
def LabelNextCardSaid : Prop := Claim7.holds Tryd.pinned (.plain (OpenSpec.ofChange labelNextSpec)) labelNextCard

/-- THE TIED CARD OF 'chartularylaw06.LabelParts'. -/
def labelPartsCard : Claim7 := { stood := { row := labelPartsRow, standIns := [], harness := (true, "c4f848ccaaa33a4b4eaee7db841420f7c3b440ab7b029de12a174b5d4fb2e726"), looks := false }, kinds := [], alts := [], laidByText := true, laidKinds := [.data, .pinned], laidTests := true, laidLooks := .later }
def LabelPartsCardSaid : Prop := Claim7.holds Tryd.pinned (.plain (OpenSpec.ofChange labelPartsSpec)) labelPartsCard

/-- THE SECOND FORM's CARD OF 'chartularylaw06.LabelNames'. -/
def labelNamesUptoCard : Claim7 := { stood := { row := labelNamesUptoRow, standIns := [], harness := (true, "c4f848ccaaa33a4b4eaee7db841420f7c3b440ab7b029de12a174b5d4fb2e726"), looks := false }, kinds := [], alts := [], laidByText := true, laidKinds := [.data, .pinned], laidTests := true, laidLooks := .later }
def LabelNamesUptoCardSaid : Prop := Claim7.holds Tryd.pinned (.plain (OpenSpec.upto labelNamesSpec)) labelNamesUptoCard

/-- THE SECOND FORM's CARD OF 'chartularylaw06.LabelEscapes'. -/
def labelEscapesUptoCard : Claim7 := { stood := { row := labelEscapesUptoRow, standIns := [], harness := (true, "c4f848ccaaa33a4b4eaee7db841420f7c3b440ab7b029de12a174b5d4fb2e726"), looks := false }, kinds := [], alts := [], laidByText := true, laidKinds := [.data, .pinned], laidTests := true, laidLooks := .later }
def LabelEscapesUptoCardSaid : Prop := Claim7.holds Tryd.pinned (.plain (OpenSpec.upto labelEscapesSpec)) labelEscapesUptoCard

/-- THE SECOND FORM's CARD OF 'chartularylaw06.LabelGroups'. -/
def labelGroupsUptoCard : Claim7 := { stood := { row := labelGroupsUptoRow, standIns := [], harness := (true, "c4f848ccaaa33a4b4eaee7db841420f7c3b440ab7b029de12a174b5d4fb2e726"), looks := false }, kinds := [], alts := [], laidByText := true, laidKinds := [.data, .pinned], laidTests := true, laidLooks := .later }
def LabelGroupsUptoCardSaid : Prop := Claim7.holds Tryd.pinned (.plain (OpenSpec.upto labelGroupsSpec)) labelGroupsUptoCard

/-- THE SECOND FORM's CARD OF 'chartularylaw06.LabelBack'. -/
def labelBackUptoCard : Claim7 := { stood := { row := labelBackUptoRow, standIns := [], harness := (true, "c4f848ccaaa33a4b4eaee7db841420f7c3b440ab7b029de12a174b5d4fb2e726"), looks := false }, kinds := [], alts := [], laidByText := true, laidKinds := [.data, .pinned], laidTests := true, laidLooks := .later }
def LabelBackUptoCardSaid : Prop := Claim7.holds Tryd.pinned (.plain (OpenSpec.upto labelBackSpec)) labelBackUptoCard

/-- THE SECOND FORM's CARD OF 'chartularylaw06.LabelNext'. -/
def labelNextUptoCard : Claim7 := { stood := { row := labelNextUptoRow, standIns := [], harness := (true, "c4f848ccaaa33a4b4eaee7db841420f7c3b440ab7b029de12a174b5d4fb2e726"), looks := false }, kinds := [], alts := [], laidByText := true, laidKinds := [.data, .pinned], laidTests := true, laidLooks := .later }
def LabelNextUptoCardSaid : Prop := Claim7.holds Tryd.pinned (.plain (OpenSpec.upto labelNextSpec)) labelNextUptoCard

/-- THE SECOND FORM's CARD OF 'chartularylaw06.LabelParts'. -/
def labelPartsUptoCard : Claim7 := { stood := { row := labelPartsUptoRow, standIns := [], harness := (true, "c4f848ccaaa33a4b4eaee7db841420f7c3b440ab7b029de12a174b5d4fb2e726"), looks := false }, kinds := [], alts := [], laidByText := true, laidKinds := [.data, .pinned], laidTests := true, laidLooks := .later }
def LabelPartsUptoCardSaid : Prop := Claim7.holds Tryd.pinned (.plain (OpenSpec.upto labelPartsSpec)) labelPartsUptoCard
end Rows
end Go.Proofs.YtdelibcanngipaaDoor
