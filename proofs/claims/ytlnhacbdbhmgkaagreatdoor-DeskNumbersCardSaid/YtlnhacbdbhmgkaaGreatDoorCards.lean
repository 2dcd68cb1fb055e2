/-
  DERIVED. GIVEN WITH THE SEED: THE CARDS: each row of YtlnhacbdbhmgkaaGreatDoorRows.lean that lists a variable, with what it lists TIED to the program's text (the seventh form; the later family's looks); each row that meets fmt, with fmt's text TOLD by the authors' own Lean function (tested against real Go, not proved from fmt's source: count such statements apart). THE CARD IS WHAT COUNTS. Prove the row's statement (the work); the ties are given (YtlnhacbdbhmgkaaGreatDoorTie.lean); close each card by the builder's one call (the guide's Derived/Test/ToyasCard.lean, 'card_holds'). Laid BY PROGRAM, IN A SANDBOX (cutbox-door.mjs). By AI agents, Wed Nov 11 2026. No macro, syntax, notation, axiom, sorry.
-/
import Derived.Test.YtlnhacbdbhmgkaaGreatDoorRows
import GoSem.ClaimSeven
namespace Go.Proofs.YtlnhacbdbhmgkaaGreatDoor
namespace Rows

/-- THE TIED CARD OF 'osierlaw24.DeskNumbers'. -/
def deskNumbersCard : Claim7 := { stood := { row := deskNumbersRow, standIns := [], harness := (true, "8ab928c13de3027df2029edc041916ba156083d1f4bcf0880bdd24773cb70232"), looks := true }, kinds := [], alts := [], laidByText := true, laidKinds := [.data], laidTests := true, laidLooks := .later }
def DeskNumbersCardSaid : Prop := Claim7.holds Tryz.pinned (.plain (OpenSpec.ofChange deskNumbersSpec)) deskNumbersCard

/-- THE SECOND FORM's CARD OF 'osierlaw24.DeskNumbers'. -/
def deskNumbersUptoCard : Claim7 := { stood := { row := deskNumbersUptoRow, standIns := [], harness := (true, "8ab928c13de3027df2029edc041916ba156083d1f4bcf0880bdd24773cb70232"), looks := true }, kinds := [], alts := [], laidByText := true, laidKinds := [.data], laidTests := true, laidLooks := .later }
def DeskNumbersUptoCardSaid : Prop := Claim7.holds Tryz.pinned (.plain (OpenSpec.upto deskNumbersSpec)) deskNumbersUptoCard
end Rows
end Go.Proofs.YtlnhacbdbhmgkaaGreatDoor
