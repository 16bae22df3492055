/-
  DERIVED. GIVEN WITH THE SEED: THE CARDS: each row of YtafmogdnhpnbiaaDoorRows.lean that lists a variable, with what it lists TIED to the program's text (the seventh form; the later family's looks); each row that meets fmt, with fmt's text TOLD by the authors' own Lean function (tested against real Go, not proved from fmt's source: count such statements apart). THE CARD IS WHAT COUNTS. Prove the row's statement (the work); the ties are given (YtafmogdnhpnbiaaDoorTie.lean); close each card by the builder's one call (the guide's Derived/Test/ToyasCard.lean, 'card_holds'). Laid BY PROGRAM, IN A SANDBOX (cutbox-door.mjs). By AI agents, Wed Nov 11 2026. No macro, syntax, notation, axiom, sorry.
-/
import Derived.Test.YtafmogdnhpnbiaaDoorRows
import GoSem.ClaimSeven
namespace Go.Proofs.YtafmogdnhpnbiaaDoor
namespace Rows

/-- THE TIED CARD OF 'chartularylaw28.ProofPaths'. -/
def proofPathsCard : Claim7 := { stood := { row := proofPathsRow, standIns := [], harness := (true, "8ce4ea62d2ba56540f398bf8dab2dc288edd71667e744a41cad8c27fcac45dc9"), looks := false }, kinds := [], alts := [], laidByText := true, laidKinds := [.data], laidTests := true, laidLooks := .later }
def ProofPathsCardSaid : Prop := Claim7.holds Tryd.pinned (.plain (OpenSpec.ofChange proofPathsSpec)) proofPathsCard

/-- THE TIED CARD OF 'chartularylaw28.ProofVerifies'. -/
def proofVerifiesCard : Claim7 := { stood := { row := proofVerifiesRow, standIns := [], harness := (true, "8ce4ea62d2ba56540f398bf8dab2dc288edd71667e744a41cad8c27fcac45dc9"), looks := false }, kinds := [], alts := [], laidByText := true, laidKinds := [.data], laidTests := true, laidLooks := .later }
def ProofVerifiesCardSaid : Prop := Claim7.holds Tryd.pinned (.plain (OpenSpec.ofChange proofVerifiesSpec)) proofVerifiesCard

/-- THE TIED CARD OF 'chartularylaw28.ProofOthers'. -/
def proofOthersCard : Claim7 := { stood := { row := proofOthersRow, standIns := [], harness := (true, "8ce4ea62d2ba56540f398bf8dab2dc288edd71667e744a41cad8c27fcac45dc9"), looks := false }, kinds := [], alts := [], laidByText := true, laidKinds := [.data], laidTests := true, laidLooks := .later }
def ProofOthersCardSaid : Prop := Claim7.holds Tryd.pinned (.plain (OpenSpec.ofChange proofOthersSpec)) proofOthersCard

/-- THE TIED CARD OF 'chartularylaw28.ProofSizes'. -/
def proofSizesCard : Claim7 := { stood := { row := proofSizesRow, standIns := [], harness := (true, "8ce4ea62d2ba56540f398bf8dab2dc288edd71667e744a41cad8c27fcac45dc9"), looks := false }, kinds := [], alts := [], laidByText := true, laidKinds := [.data], laidTests := true, laidLooks := .later }
def ProofSizesCardSaid : Prop := Claim7.holds Tryd.pinned (.plain (OpenSpec.ofChange proofSizesSpec)) proofSizesCard

/-- THE SECOND FORM's CARD OF 'chartularylaw28.ProofPaths'. -/
def proofPathsUptoCard : Claim7 := { stood := { row := proofPathsUptoRow, standIns := [], harness := (true, "8ce4ea62d2ba56540f398bf8dab2dc288edd71667e744a41cad8c27fcac45dc9"), looks := false }, kinds := [], alts := [], laidByText := true, laidKinds := [.data], laidTests := true, laidLooks := .later }
def ProofPathsUptoCardSaid : Prop := Claim7.holds Tryd.pinned (.plain (OpenSpec.upto proofPathsSpec)) proofPathsUptoCard

/-- THE SECOND FORM's CARD OF 'chartularylaw28.ProofVerifies'. -/
def proofVerifiesUptoCard : Claim7 := { stood := { row := proofVerifiesUptoRow, standIns := [], harness := (true, "8ce4ea62d2ba56540f398bf8dab2dc288edd71667e744a41cad8c27fcac45dc9"), looks := false }, kinds := [], alts := [], laidByText := true, laidKinds := [.data], laidTests := true, laidLooks := .later }
def ProofVerifiesUptoCardSaid : Prop := Claim7.holds Tryd.pinned (.plain (OpenSpec.upto proofVerifiesSpec)) proofVerifiesUptoCard

/-- THE SECOND FORM's CARD OF 'chartularylaw28.ProofOthers'. -/
def proofOthersUptoCard : Claim7 := { stood := { row := proofOthersUptoRow, standIns := [], harness := (true, "8ce4ea62d2ba56540f398bf8dab2dc288edd71667e744a41cad8c27fcac45dc9"), looks := false }, kinds := [], alts := [], laidByText := true, laidKinds := [.data], laidTests := true, laidLooks := .later }
def ProofOthersUptoCardSaid : Prop := Claim7.holds Tryd.pinned (.plain (OpenSpec.upto proofOthersSpec)) proofOthersUptoCard

/-- THE SECOND FORM's CARD OF 'chartularylaw28.ProofSizes'. -/
def proofSizesUptoCard : Claim7 := { stood := { row := proofSizesUptoRow, standIns := [], harness := (true, "8ce4ea62d2ba56540f398bf8dab2dc288edd71667e744a41cad8c27fcac45dc9"), looks := false }, kinds := [], alts := [], laidByText := true, laidKinds := [.data], laidTests := true, laidLooks := .later }
def ProofSizesUptoCardSaid : Prop := Claim7.holds Tryd.pinned (.plain (OpenSpec.upto proofSizesSpec)) proofSizesUptoCard
end Rows
end Go.Proofs.YtafmogdnhpnbiaaDoor
