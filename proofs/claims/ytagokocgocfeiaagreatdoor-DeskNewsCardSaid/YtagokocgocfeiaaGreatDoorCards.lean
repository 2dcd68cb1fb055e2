/-
  DERIVED. GIVEN WITH THE SEED: THE CARDS: each row of YtagokocgocfeiaaGreatDoorRows.lean that lists a variable, with what it lists TIED to the program's text (the seventh form; the later family's looks); each row that meets fmt, with fmt's text TOLD by the authors' own Lean function (tested against real Go, not proved from fmt's source: count such statements apart). THE CARD IS WHAT COUNTS. Prove the row's statement (the work); the ties are given (YtagokocgocfeiaaGreatDoorTie.lean); close each card by the builder's one call (the guide's Derived/Test/ToyasCard.lean, 'card_holds'). Laid BY PROGRAM, IN A SANDBOX (cutbox-door.mjs). By AI agents, Wed Nov 11 2026. No macro, syntax, notation, axiom, sorry.
-/
import Derived.Test.YtagokocgocfeiaaGreatDoorRows
import GoSem.ClaimSeven
namespace Go.Proofs.YtagokocgocfeiaaGreatDoor
namespace Rows

/-- THE TIED CARD OF 'osierlaw24.DeskNews'. -/
def deskNewsCard : Claim7 := { stood := { row := deskNewsRow, standIns := [], harness := (true, "5e0bcd108636ed8332c8a9f640a9828a66ff7e28c15ca4f65f54f0f5ced8558a"), looks := true }, kinds := [], alts := [], laidByText := true, laidKinds := [.data], laidTests := true, laidLooks := .later }
def DeskNewsCardSaid : Prop := Claim7.holds Tryz.pinned (.plain (OpenSpec.ofChange deskNewsSpec)) deskNewsCard

/-- THE SECOND FORM's CARD OF 'osierlaw24.DeskNews'. -/
def deskNewsUptoCard : Claim7 := { stood := { row := deskNewsUptoRow, standIns := [], harness := (true, "5e0bcd108636ed8332c8a9f640a9828a66ff7e28c15ca4f65f54f0f5ced8558a"), looks := true }, kinds := [], alts := [], laidByText := true, laidKinds := [.data], laidTests := true, laidLooks := .later }
def DeskNewsUptoCardSaid : Prop := Claim7.holds Tryz.pinned (.plain (OpenSpec.upto deskNewsSpec)) deskNewsUptoCard
end Rows
end Go.Proofs.YtagokocgocfeiaaGreatDoor
