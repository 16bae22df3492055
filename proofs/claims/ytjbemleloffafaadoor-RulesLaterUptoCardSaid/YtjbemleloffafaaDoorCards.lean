/-
  DERIVED. GIVEN WITH THE SEED: THE CARDS: each row of YtjbemleloffafaaDoorRows.lean that lists a variable, with what it lists TIED to the program's text (the seventh form; the later family's looks); each row that meets fmt, with fmt's text TOLD by the authors' own Lean function (tested against real Go, not proved from fmt's source: count such statements apart). THE CARD IS WHAT COUNTS. Prove the row's statement (the work); the ties are given (YtjbemleloffafaaDoorTie.lean); close each card by the builder's one call (the guide's Derived/Test/ToyasCard.lean, 'card_holds'). Laid BY PROGRAM, IN A SANDBOX (cutbox-door.mjs). By AI agents, Wed Nov 11 2026. No macro, syntax, notation, axiom, sorry.
-/
import Derived.Test.YtjbemleloffafaaDoorRows
import GoSem.ClaimSeven
namespace Go.Proofs.YtjbemleloffafaaDoor
namespace Rows

/-- THE TIED CARD OF 'chartularylaw21.GrantAllows'. -/
def grantAllowsCard : Claim7 := { stood := { row := grantAllowsRow, standIns := [], harness := (true, "8610e8aabd570f51e39f02df4ec72f413e3a1052a853208997d1116ab5d3b681"), looks := true }, kinds := [], alts := [], laidByText := true, laidKinds := [.data, .pinned], laidTests := true, laidLooks := .later }
def GrantAllowsCardSaid : Prop := Claim7.holds Tryd.pinned (.plain (OpenSpec.ofChange grantAllowsSpec)) grantAllowsCard

/-- THE TIED CARD OF 'chartularylaw21.GrantMore'. -/
def grantMoreCard : Claim7 := { stood := { row := grantMoreRow, standIns := [], harness := (true, "8610e8aabd570f51e39f02df4ec72f413e3a1052a853208997d1116ab5d3b681"), looks := true }, kinds := [], alts := [], laidByText := true, laidKinds := [.data, .pinned], laidTests := true, laidLooks := .later }
def GrantMoreCardSaid : Prop := Claim7.holds Tryd.pinned (.plain (OpenSpec.ofChange grantMoreSpec)) grantMoreCard

/-- THE TIED CARD OF 'chartularylaw21.GrantTexts'. -/
def grantTextsCard : Claim7 := { stood := { row := grantTextsRow, standIns := [], harness := (true, "8610e8aabd570f51e39f02df4ec72f413e3a1052a853208997d1116ab5d3b681"), looks := true }, kinds := [], alts := [], laidByText := true, laidKinds := [.data, .pinned], laidTests := true, laidLooks := .later }
def GrantTextsCardSaid : Prop := Claim7.holds Tryd.pinned (.plain (OpenSpec.ofChange grantTextsSpec)) grantTextsCard

/-- THE TIED CARD OF 'chartularylaw21.GrantBack'. -/
def grantBackCard : Claim7 := { stood := { row := grantBackRow, standIns := [], harness := (true, "8610e8aabd570f51e39f02df4ec72f413e3a1052a853208997d1116ab5d3b681"), looks := true }, kinds := [], alts := [], laidByText := true, laidKinds := [.data, .pinned], laidTests := true, laidLooks := .later }
def GrantBackCardSaid : Prop := Claim7.holds Tryd.pinned (.plain (OpenSpec.ofChange grantBackSpec)) grantBackCard

/-- THE TIED CARD OF 'chartularylaw08.TagsMakes'. -/
def tagsMakesCard : Claim7 := { stood := { row := tagsMakesRow, standIns := [], harness := (true, "8610e8aabd570f51e39f02df4ec72f413e3a1052a853208997d1116ab5d3b681"), looks := true }, kinds := [], alts := [], laidByText := true, laidKinds := [.data, .pinned], laidTests := true, laidLooks := .later }
def TagsMakesCardSaid : Prop := Claim7.holds Tryd.pinned (.plain (OpenSpec.ofChange tagsMakesSpec)) tagsMakesCard

/-- THE TIED CARD OF 'chartularylaw08.TagsOver'. -/
def tagsOverCard : Claim7 := { stood := { row := tagsOverRow, standIns := [], harness := (true, "8610e8aabd570f51e39f02df4ec72f413e3a1052a853208997d1116ab5d3b681"), looks := true }, kinds := [], alts := [], laidByText := true, laidKinds := [.data, .pinned], laidTests := true, laidLooks := .later }
def TagsOverCardSaid : Prop := Claim7.holds Tryd.pinned (.plain (OpenSpec.ofChange tagsOverSpec)) tagsOverCard

/-- THE TIED CARD OF 'chartularylaw08.TagsTexts'. -/
def tagsTextsCard : Claim7 := { stood := { row := tagsTextsRow, standIns := [], harness := (true, "8610e8aabd570f51e39f02df4ec72f413e3a1052a853208997d1116ab5d3b681"), looks := true }, kinds := [], alts := [], laidByText := true, laidKinds := [.data, .pinned], laidTests := true, laidLooks := .later }
def TagsTextsCardSaid : Prop := Claim7.holds Tryd.pinned (.plain (OpenSpec.ofChange tagsTextsSpec)) tagsTextsCard

/-- THE TIED CARD OF 'chartularylaw08.TagsBack'. -/
def tagsBackCard : Claim7 := { stood := { row := tagsBackRow, standIns := [], harness := (true, "8610e8aabd570f51e39f02df4ec72f413e3a1052a853208997d1116ab5d3b681"), looks := true }, kinds := [], alts := [], laidByText := true, laidKinds := [.data, .pinned], laidTests := true, laidLooks := .later }
def TagsBackCardSaid : Prop := Claim7.holds Tryd.pinned (.plain (OpenSpec.ofChange tagsBackSpec)) tagsBackCard

/-- THE TIED CARD OF 'chartularylaw22.RulesLater'. -/
def rulesLaterCard : Claim7 := { stood := { row := rulesLaterRow, standIns := [], harness := (true, "8610e8aabd570f51e39f02df4ec72f413e3a1052a853208997d1116ab5d3b681"), looks := true }, kinds := [], alts := [], laidByText := true, laidKinds := [.data, .data, .data, .data, .sentinel, .sentinel, .data, .pinned], laidTests := true, laidLooks := .later }
def RulesLaterCardSaid : Prop := Claim7.holds Tryd.pinned (.plain (OpenSpec.ofChange rulesLaterSpec)) rulesLaterCard

/-- THE SECOND FORM's CARD OF 'chartularylaw21.GrantAllows'. -/
def grantAllowsUptoCard : Claim7 := { stood := { row := grantAllowsUptoRow, standIns := [], harness := (true, "8610e8aabd570f51e39f02df4ec72f413e3a1052a853208997d1116ab5d3b681"), looks := true }, kinds := [], alts := [], laidByText := true, laidKinds := [.data, .pinned], laidTests := true, laidLooks := .later }
def GrantAllowsUptoCardSaid : Prop := Claim7.holds Tryd.pinned (.plain (OpenSpec.upto grantAllowsSpec)) grantAllowsUptoCard

/-- THE SECOND FORM's CARD OF 'chartularylaw21.GrantMore'. -/
def grantMoreUptoCard : Claim7 := { stood := { row := grantMoreUptoRow, standIns := [], harness := (true, "8610e8aabd570f51e39f02df4ec72f413e3a1052a853208997d1116ab5d3b681"), looks := true }, kinds := [], alts := [], laidByText := true, laidKinds := [.data, .pinned], laidTests := true, laidLooks := .later }
def GrantMoreUptoCardSaid : Prop := Claim7.holds Tryd.pinned (.plain (OpenSpec.upto grantMoreSpec)) grantMoreUptoCard

/-- THE SECOND FORM's CARD OF 'chartularylaw21.GrantTexts'. -/
def grantTextsUptoCard : Claim7 := { stood := { row := grantTextsUptoRow, standIns := [], harness := (true, "8610e8aabd570f51e39f02df4ec72f413e3a1052a853208997d1116ab5d3b681"), looks := true }, kinds := [], alts := [], laidByText := true, laidKinds := [.data, .pinned], laidTests := true, laidLooks := .later }
def GrantTextsUptoCardSaid : Prop := Claim7.holds Tryd.pinned (.plain (OpenSpec.upto grantTextsSpec)) grantTextsUptoCard

/-- THE SECOND FORM's CARD OF 'chartularylaw21.GrantBack'. -/
def grantBackUptoCard : Claim7 := { stood := { row := grantBackUptoRow, standIns := [], harness := (true, "8610e8aabd570f51e39f02df4ec72f413e3a1052a853208997d1116ab5d3b681"), looks := true }, kinds := [], alts := [], laidByText := true, laidKinds := [.data, .pinned], laidTests := true, laidLooks := .later }
def GrantBackUptoCardSaid : Prop := Claim7.holds Tryd.pinned (.plain (OpenSpec.upto grantBackSpec)) grantBackUptoCard

/-- THE SECOND FORM's CARD OF 'chartularylaw08.TagsMakes'. -/
def tagsMakesUptoCard : Claim7 := { stood := { row := tagsMakesUptoRow, standIns := [], harness := (true, "8610e8aabd570f51e39f02df4ec72f413e3a1052a853208997d1116ab5d3b681"), looks := true }, kinds := [], alts := [], laidByText := true, laidKinds := [.data, .pinned], laidTests := true, laidLooks := .later }
def TagsMakesUptoCardSaid : Prop := Claim7.holds Tryd.pinned (.plain (OpenSpec.upto tagsMakesSpec)) tagsMakesUptoCard

/-- THE SECOND FORM's CARD OF 'chartularylaw08.TagsOver'. -/
def tagsOverUptoCard : Claim7 := { stood := { row := tagsOverUptoRow, standIns := [], harness := (true, "8610e8aabd570f51e39f02df4ec72f413e3a1052a853208997d1116ab5d3b681"), looks := true }, kinds := [], alts := [], laidByText := true, laidKinds := [.data, .pinned], laidTests := true, laidLooks := .later }
def TagsOverUptoCardSaid : Prop := Claim7.holds Tryd.pinned (.plain (OpenSpec.upto tagsOverSpec)) tagsOverUptoCard

/-- THE SECOND FORM's CARD OF 'chartularylaw08.TagsTexts'. -/
def tagsTextsUptoCard : Claim7 := { stood := { row := tagsTextsUptoRow, standIns := [], harness := (true, "8610e8aabd570f51e39f02df4ec72f413e3a1052a853208997d1116ab5d3b681"), looks := true }, kinds := [], alts := [], laidByText := true, laidKinds := [.data, .pinned], laidTests := true, laidLooks := .later }
def TagsTextsUptoCardSaid : Prop := Claim7.holds Tryd.pinned (.plain (OpenSpec.upto tagsTextsSpec)) tagsTextsUptoCard

/-- THE SECOND FORM's CARD OF 'chartularylaw08.TagsBack'. -/
def tagsBackUptoCard : Claim7 := { stood := { row := tagsBackUptoRow, standIns := [], harness := (true, "8610e8aabd570f51e39f02df4ec72f413e3a1052a853208997d1116ab5d3b681"), looks := true }, kinds := [], alts := [], laidByText := true, laidKinds := [.data, .pinned], laidTests := true, laidLooks := .later }
def TagsBackUptoCardSaid : Prop := Claim7.holds Tryd.pinned (.plain (OpenSpec.upto tagsBackSpec)) tagsBackUptoCard

/-- THE SECOND FORM's CARD OF 'chartularylaw22.RulesLater'. -/
def rulesLaterUptoCard : Claim7 := { stood := { row := rulesLaterUptoRow, standIns := [], harness := (true, "8610e8aabd570f51e39f02df4ec72f413e3a1052a853208997d1116ab5d3b681"), looks := true }, kinds := [], alts := [], laidByText := true, laidKinds := [.data, .data, .data, .data, .sentinel, .sentinel, .data, .pinned], laidTests := true, laidLooks := .later }
def RulesLaterUptoCardSaid : Prop := Claim7.holds Tryd.pinned (.plain (OpenSpec.upto rulesLaterSpec)) rulesLaterUptoCard
end Rows
end Go.Proofs.YtjbemleloffafaaDoor
