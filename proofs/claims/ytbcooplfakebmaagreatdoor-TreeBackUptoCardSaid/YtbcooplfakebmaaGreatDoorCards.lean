/-
  DERIVED. GIVEN WITH THE SEED: THE CARDS: each row of YtbcooplfakebmaaGreatDoorRows.lean that lists a variable, with what it lists TIED to the program's text (the seventh form; the later family's looks); each row that meets fmt, with fmt's text TOLD by the authors' own Lean function (tested against real Go, not proved from fmt's source: count such statements apart). THE CARD IS WHAT COUNTS. Prove the row's statement (the work); the ties are given (YtbcooplfakebmaaGreatDoorTie.lean); close each card by the builder's one call (the guide's Derived/Test/ToyasCard.lean, 'card_holds'). Laid BY PROGRAM, IN A SANDBOX (cutbox-door.mjs). By AI agents, Wed Nov 11 2026. No macro, syntax, notation, axiom, sorry.
-/
import Derived.Test.YtbcooplfakebmaaGreatDoorRows
import GoSem.ClaimSeven
namespace Go.Proofs.YtbcooplfakebmaaGreatDoor
namespace Rows

/-- THE TIED CARD OF 'osierlaw20.TreeIdle'. -/
def treeIdleCard : Claim7 := { stood := { row := treeIdleRow, standIns := [], harness := (true, "1b54f5845ba5eb7e21dd7d422c2bfb565300cdd943f38b13ff8621907a131ace"), looks := true }, kinds := [], alts := [], laidByText := true, laidKinds := [.data], laidTests := true, laidLooks := .later }
def TreeIdleCardSaid : Prop := Claim7.holds Tryz.pinned (.plain (OpenSpec.ofChange treeIdleSpec)) treeIdleCard

/-- THE TIED CARD OF 'osierlaw20.TreeRefused'. -/
def treeRefusedCard : Claim7 := { stood := { row := treeRefusedRow, standIns := [], harness := (true, "1b54f5845ba5eb7e21dd7d422c2bfb565300cdd943f38b13ff8621907a131ace"), looks := true }, kinds := [], alts := [], laidByText := true, laidKinds := [.data], laidTests := true, laidLooks := .later }
def TreeRefusedCardSaid : Prop := Claim7.holds Tryz.pinned (.plain (OpenSpec.ofChange treeRefusedSpec)) treeRefusedCard

/-- THE TIED CARD OF 'osierlaw20.TreeBack'. -/
def treeBackCard : Claim7 := { stood := { row := treeBackRow, standIns := [], harness := (true, "1b54f5845ba5eb7e21dd7d422c2bfb565300cdd943f38b13ff8621907a131ace"), looks := true }, kinds := [], alts := [], laidByText := true, laidKinds := [.data], laidTests := true, laidLooks := .later }
def TreeBackCardSaid : Prop := Claim7.holds Tryz.pinned (.plain (OpenSpec.ofChange treeBackSpec)) treeBackCard

/-- THE SECOND FORM's CARD OF 'osierlaw20.TreeIdle'. -/
def treeIdleUptoCard : Claim7 := { stood := { row := treeIdleUptoRow, standIns := [], harness := (true, "1b54f5845ba5eb7e21dd7d422c2bfb565300cdd943f38b13ff8621907a131ace"), looks := true }, kinds := [], alts := [], laidByText := true, laidKinds := [.data], laidTests := true, laidLooks := .later }
def TreeIdleUptoCardSaid : Prop := Claim7.holds Tryz.pinned (.plain (OpenSpec.upto treeIdleSpec)) treeIdleUptoCard

/-- THE SECOND FORM's CARD OF 'osierlaw20.TreeRefused'. -/
def treeRefusedUptoCard : Claim7 := { stood := { row := treeRefusedUptoRow, standIns := [], harness := (true, "1b54f5845ba5eb7e21dd7d422c2bfb565300cdd943f38b13ff8621907a131ace"), looks := true }, kinds := [], alts := [], laidByText := true, laidKinds := [.data], laidTests := true, laidLooks := .later }
def TreeRefusedUptoCardSaid : Prop := Claim7.holds Tryz.pinned (.plain (OpenSpec.upto treeRefusedSpec)) treeRefusedUptoCard

/-- THE SECOND FORM's CARD OF 'osierlaw20.TreeBack'. -/
def treeBackUptoCard : Claim7 := { stood := { row := treeBackUptoRow, standIns := [], harness := (true, "1b54f5845ba5eb7e21dd7d422c2bfb565300cdd943f38b13ff8621907a131ace"), looks := true }, kinds := [], alts := [], laidByText := true, laidKinds := [.data], laidTests := true, laidLooks := .later }
def TreeBackUptoCardSaid : Prop := Claim7.holds Tryz.pinned (.plain (OpenSpec.upto treeBackSpec)) treeBackUptoCard
end Rows
end Go.Proofs.YtbcooplfakebmaaGreatDoor
