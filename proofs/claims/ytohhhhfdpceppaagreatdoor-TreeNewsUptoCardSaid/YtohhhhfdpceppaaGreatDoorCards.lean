/-
  DERIVED. GIVEN WITH THE SEED: THE CARDS: each row of YtohhhhfdpceppaaGreatDoorRows.lean that lists a variable, with what it lists TIED to the program's text (the seventh form; the later family's looks); each row that meets fmt, with fmt's text TOLD by the authors' own Lean function (tested against real Go, not proved from fmt's source: count such statements apart). THE CARD IS WHAT COUNTS. Prove the row's statement (the work); the ties are given (YtohhhhfdpceppaaGreatDoorTie.lean); close each card by the builder's one call (the guide's Derived/Test/ToyasCard.lean, 'card_holds'). Laid BY PROGRAM, IN A SANDBOX (cutbox-door.mjs). By AI agents, Wed Nov 11 2026. No macro, syntax, notation, axiom, sorry.
-/
import Derived.Test.YtohhhhfdpceppaaGreatDoorRows
import GoSem.ClaimSeven
namespace Go.Proofs.YtohhhhfdpceppaaGreatDoor
namespace Rows

/-- THE TIED CARD OF 'osierlaw20.TreeOrderless'. -/
def treeOrderlessCard : Claim7 := { stood := { row := treeOrderlessRow, standIns := [], harness := (true, "883acd043ad33f93dc68292197d67f731dc14d3c3686d5b402ac77fb99f478a4"), looks := true }, kinds := [], alts := [], laidByText := true, laidKinds := [.data], laidTests := true, laidLooks := .later }
def TreeOrderlessCardSaid : Prop := Claim7.holds Tryz.pinned (.plain (OpenSpec.ofChange treeOrderlessSpec)) treeOrderlessCard

/-- THE TIED CARD OF 'osierlaw20.TreeCosts'. -/
def treeCostsCard : Claim7 := { stood := { row := treeCostsRow, standIns := [], harness := (true, "883acd043ad33f93dc68292197d67f731dc14d3c3686d5b402ac77fb99f478a4"), looks := true }, kinds := [], alts := [], laidByText := true, laidKinds := [.data], laidTests := true, laidLooks := .later }
def TreeCostsCardSaid : Prop := Claim7.holds Tryz.pinned (.plain (OpenSpec.ofChange treeCostsSpec)) treeCostsCard

/-- THE TIED CARD OF 'osierlaw20.TreeNews'. -/
def treeNewsCard : Claim7 := { stood := { row := treeNewsRow, standIns := [], harness := (true, "883acd043ad33f93dc68292197d67f731dc14d3c3686d5b402ac77fb99f478a4"), looks := true }, kinds := [], alts := [], laidByText := true, laidKinds := [.data], laidTests := true, laidLooks := .later }
def TreeNewsCardSaid : Prop := Claim7.holds Tryz.pinned (.plain (OpenSpec.ofChange treeNewsSpec)) treeNewsCard

/-- THE SECOND FORM's CARD OF 'osierlaw20.TreeOrderless'. -/
def treeOrderlessUptoCard : Claim7 := { stood := { row := treeOrderlessUptoRow, standIns := [], harness := (true, "883acd043ad33f93dc68292197d67f731dc14d3c3686d5b402ac77fb99f478a4"), looks := true }, kinds := [], alts := [], laidByText := true, laidKinds := [.data], laidTests := true, laidLooks := .later }
def TreeOrderlessUptoCardSaid : Prop := Claim7.holds Tryz.pinned (.plain (OpenSpec.upto treeOrderlessSpec)) treeOrderlessUptoCard

/-- THE SECOND FORM's CARD OF 'osierlaw20.TreeCosts'. -/
def treeCostsUptoCard : Claim7 := { stood := { row := treeCostsUptoRow, standIns := [], harness := (true, "883acd043ad33f93dc68292197d67f731dc14d3c3686d5b402ac77fb99f478a4"), looks := true }, kinds := [], alts := [], laidByText := true, laidKinds := [.data], laidTests := true, laidLooks := .later }
def TreeCostsUptoCardSaid : Prop := Claim7.holds Tryz.pinned (.plain (OpenSpec.upto treeCostsSpec)) treeCostsUptoCard

/-- THE SECOND FORM's CARD OF 'osierlaw20.TreeNews'. -/
def treeNewsUptoCard : Claim7 := { stood := { row := treeNewsUptoRow, standIns := [], harness := (true, "883acd043ad33f93dc68292197d67f731dc14d3c3686d5b402ac77fb99f478a4"), looks := true }, kinds := [], alts := [], laidByText := true, laidKinds := [.data], laidTests := true, laidLooks := .later }
def TreeNewsUptoCardSaid : Prop := Claim7.holds Tryz.pinned (.plain (OpenSpec.upto treeNewsSpec)) treeNewsUptoCard
end Rows
end Go.Proofs.YtohhhhfdpceppaaGreatDoor
