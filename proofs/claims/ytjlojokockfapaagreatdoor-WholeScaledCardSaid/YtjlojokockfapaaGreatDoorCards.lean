/-
  DERIVED. GIVEN WITH THE SEED: THE CARDS: each row of YtjlojokockfapaaGreatDoorRows.lean that lists a variable, with what it lists TIED to the program's text (the seventh form; the later family's looks); each row that meets fmt, with fmt's text TOLD by the authors' own Lean function (tested against real Go, not proved from fmt's source: count such statements apart). THE CARD IS WHAT COUNTS. Prove the row's statement (the work); the ties are given (YtjlojokockfapaaGreatDoorTie.lean); close each card by the builder's one call (the guide's Derived/Test/ToyasCard.lean, 'card_holds'). Laid BY PROGRAM, IN A SANDBOX (cutbox-door.mjs). By AI agents, Wed Nov 11 2026. No macro, syntax, notation, axiom, sorry.
-/
import Derived.Test.YtjlojokockfapaaGreatDoorRows
import GoSem.ClaimSeven
namespace Go.Proofs.YtjlojokockfapaaGreatDoor
namespace Rows

/-- THE TIED CARD OF 'compasstop.WholeScaled'. -/
def wholeScaledCard : Claim7 := { stood := { row := wholeScaledRow, standIns := [], harness := (true, "26f72b17ad47575a163e80107febbe5bcbcf443ddbe1165a7609854e4608a4e9"), looks := true }, kinds := [], alts := [], laidByText := true, laidKinds := [.data], laidTests := true, laidLooks := .later }
def WholeScaledCardSaid : Prop := Claim7.holds Tryz.pinned (.plain (OpenSpec.ofChange wholeScaledSpec)) wholeScaledCard

/-- THE SECOND FORM's CARD OF 'compasstop.WholeScaled'. -/
def wholeScaledUptoCard : Claim7 := { stood := { row := wholeScaledUptoRow, standIns := [], harness := (true, "26f72b17ad47575a163e80107febbe5bcbcf443ddbe1165a7609854e4608a4e9"), looks := true }, kinds := [], alts := [], laidByText := true, laidKinds := [.data], laidTests := true, laidLooks := .later }
def WholeScaledUptoCardSaid : Prop := Claim7.holds Tryz.pinned (.plain (OpenSpec.upto wholeScaledSpec)) wholeScaledUptoCard
end Rows
end Go.Proofs.YtjlojokockfapaaGreatDoor
