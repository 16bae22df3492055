/-
  DERIVED. GIVEN WITH THE SEED: THE CARDS: each row of YtjbemleloffafaaGreatDoorRows.lean that lists a variable, with what it lists TIED to the program's text (the seventh form; the later family's looks); each row that meets fmt, with fmt's text TOLD by the authors' own Lean function (tested against real Go, not proved from fmt's source: count such statements apart). THE CARD IS WHAT COUNTS. Prove the row's statement (the work); the ties are given (YtjbemleloffafaaGreatDoorTie.lean); close each card by the builder's one call (the guide's Derived/Test/ToyasCard.lean, 'card_holds'). Laid BY PROGRAM, IN A SANDBOX (cutbox-door.mjs). By AI agents, Wed Nov 11 2026. No macro, syntax, notation, axiom, sorry.
-/
import Derived.Test.YtjbemleloffafaaGreatDoorRows
import GoSem.ClaimSeven
namespace Go.Proofs.YtjbemleloffafaaGreatDoor
namespace Rows

/-- THE TIED CARD OF 'chartularylaw22.RulesSoon'. -/
def rulesSoonCard : Claim7 := { stood := { row := rulesSoonRow, standIns := [], harness := (true, "5e441e3d2fab58d887673f0ba10d23055a2631703f2ce0a3de7192ae7332df99"), looks := true }, kinds := [], alts := [], laidByText := true, laidKinds := [.data, .data, .data, .data, .sentinel, .sentinel, .data, .pinned], laidTests := true, laidLooks := .later }
def RulesSoonCardSaid : Prop := Claim7.holds Tryz.pinned (.plain (OpenSpec.ofChange rulesSoonSpec)) rulesSoonCard

/-- THE TIED CARD OF 'chartularylaw22.RulesTexts'. -/
def rulesTextsCard : Claim7 := { stood := { row := rulesTextsRow, standIns := [], harness := (true, "5e441e3d2fab58d887673f0ba10d23055a2631703f2ce0a3de7192ae7332df99"), looks := true }, kinds := [], alts := [], laidByText := true, laidKinds := [.data, .data, .data, .data, .sentinel, .sentinel, .data, .pinned], laidTests := true, laidLooks := .later }
def RulesTextsCardSaid : Prop := Claim7.holds Tryz.pinned (.plain (OpenSpec.ofChange rulesTextsSpec)) rulesTextsCard

/-- THE TIED CARD OF 'chartularylaw22.RulesBack'. -/
def rulesBackCard : Claim7 := { stood := { row := rulesBackRow, standIns := [], harness := (true, "5e441e3d2fab58d887673f0ba10d23055a2631703f2ce0a3de7192ae7332df99"), looks := true }, kinds := [], alts := [], laidByText := true, laidKinds := [.data, .data, .data, .data, .sentinel, .sentinel, .data, .pinned], laidTests := true, laidLooks := .later }
def RulesBackCardSaid : Prop := Claim7.holds Tryz.pinned (.plain (OpenSpec.ofChange rulesBackSpec)) rulesBackCard

/-- THE SECOND FORM's CARD OF 'chartularylaw22.RulesSoon'. -/
def rulesSoonUptoCard : Claim7 := { stood := { row := rulesSoonUptoRow, standIns := [], harness := (true, "5e441e3d2fab58d887673f0ba10d23055a2631703f2ce0a3de7192ae7332df99"), looks := true }, kinds := [], alts := [], laidByText := true, laidKinds := [.data, .data, .data, .data, .sentinel, .sentinel, .data, .pinned], laidTests := true, laidLooks := .later }
def RulesSoonUptoCardSaid : Prop := Claim7.holds Tryz.pinned (.plain (OpenSpec.upto rulesSoonSpec)) rulesSoonUptoCard

/-- THE SECOND FORM's CARD OF 'chartularylaw22.RulesTexts'. -/
def rulesTextsUptoCard : Claim7 := { stood := { row := rulesTextsUptoRow, standIns := [], harness := (true, "5e441e3d2fab58d887673f0ba10d23055a2631703f2ce0a3de7192ae7332df99"), looks := true }, kinds := [], alts := [], laidByText := true, laidKinds := [.data, .data, .data, .data, .sentinel, .sentinel, .data, .pinned], laidTests := true, laidLooks := .later }
def RulesTextsUptoCardSaid : Prop := Claim7.holds Tryz.pinned (.plain (OpenSpec.upto rulesTextsSpec)) rulesTextsUptoCard

/-- THE SECOND FORM's CARD OF 'chartularylaw22.RulesBack'. -/
def rulesBackUptoCard : Claim7 := { stood := { row := rulesBackUptoRow, standIns := [], harness := (true, "5e441e3d2fab58d887673f0ba10d23055a2631703f2ce0a3de7192ae7332df99"), looks := true }, kinds := [], alts := [], laidByText := true, laidKinds := [.data, .data, .data, .data, .sentinel, .sentinel, .data, .pinned], laidTests := true, laidLooks := .later }
def RulesBackUptoCardSaid : Prop := Claim7.holds Tryz.pinned (.plain (OpenSpec.upto rulesBackSpec)) rulesBackUptoCard
end Rows
end Go.Proofs.YtjbemleloffafaaGreatDoor
