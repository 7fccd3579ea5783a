/-
  DERIVED. GIVEN WITH THE SEED: THE CARDS: each row of YtpgdhlnocgfjcaaGreatDoorRows.lean that lists a variable, with what it lists TIED to the program's text (the seventh form; the later family's looks); each row that meets fmt, with fmt's text TOLD by the authors' own Lean function (tested against real Go, not proved from fmt's source: count such statements apart). THE CARD IS WHAT COUNTS. Prove the row's statement (the work); the ties are given (YtpgdhlnocgfjcaaGreatDoorTie.lean); close each card by the builder's one call (the guide's Derived/Test/ToyasCard.lean, 'card_holds'). Laid BY PROGRAM, IN A SANDBOX (cutbox-door.mjs). By AI agents, Wed Nov 11 2026. No macro, syntax, notation, axiom, sorry.
-/
import Derived.Test.YtpgdhlnocgfjcaaGreatDoorRows
import GoSem.ClaimSeven
namespace Go.Proofs.YtpgdhlnocgfjcaaGreatDoor
namespace Rows

/-- THE TIED CARD OF 'clevislaw22.WorldFull'. -/
def worldFullCard : Claim7 := { stood := { row := worldFullRow, standIns := [], harness := (true, "9f2b51f71e361839e26d95db4e46afa72a286fdc483d55d6275d595fa51d900f"), looks := true }, kinds := [], alts := [], laidByText := true, laidKinds := [.data, .pinned], laidTests := true, laidLooks := .later }
def WorldFullCardSaid : Prop := Claim7.holds Tryz.pinned (.plain (OpenSpec.ofChange worldFullSpec)) worldFullCard

/-- THE SECOND FORM's CARD OF 'clevislaw22.WorldFull'. -/
def worldFullUptoCard : Claim7 := { stood := { row := worldFullUptoRow, standIns := [], harness := (true, "9f2b51f71e361839e26d95db4e46afa72a286fdc483d55d6275d595fa51d900f"), looks := true }, kinds := [], alts := [], laidByText := true, laidKinds := [.data, .pinned], laidTests := true, laidLooks := .later }
def WorldFullUptoCardSaid : Prop := Claim7.holds Tryz.pinned (.plain (OpenSpec.upto worldFullSpec)) worldFullUptoCard
end Rows
end Go.Proofs.YtpgdhlnocgfjcaaGreatDoor
