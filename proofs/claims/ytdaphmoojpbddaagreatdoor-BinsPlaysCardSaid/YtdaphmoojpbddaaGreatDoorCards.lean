/-
  DERIVED. GIVEN WITH THE SEED: THE CARDS: each row of YtdaphmoojpbddaaGreatDoorRows.lean that lists a variable, with what it lists TIED to the program's text (the seventh form; the later family's looks); each row that meets fmt, with fmt's text TOLD by the authors' own Lean function (tested against real Go, not proved from fmt's source: count such statements apart). THE CARD IS WHAT COUNTS. Prove the row's statement (the work); the ties are given (YtdaphmoojpbddaaGreatDoorTie.lean); close each card by the builder's one call (the guide's Derived/Test/ToyasCard.lean, 'card_holds'). Laid BY PROGRAM, IN A SANDBOX (cutbox-door.mjs). By AI agents, Wed Nov 11 2026. No macro, syntax, notation, axiom, sorry.
-/
import Derived.Test.YtdaphmoojpbddaaGreatDoorRows
import GoSem.ClaimSeven
namespace Go.Proofs.YtdaphmoojpbddaaGreatDoor
namespace Rows

/-- THE TIED CARD OF 'steelyardlaw09.BinsPlays'. -/
def binsPlaysCard : Claim7 := { stood := { row := binsPlaysRow, standIns := [], harness := (true, "fb8a9071a769408023dfff38daed4a9ce48de01adf0bb492b0606beb3363d3ec"), looks := false }, kinds := [], alts := [], laidByText := true, laidKinds := [.data], laidTests := true, laidLooks := .later }
def BinsPlaysCardSaid : Prop := Claim7.holds Tryz.pinned (.plain (OpenSpec.ofChange binsPlaysSpec)) binsPlaysCard

/-- THE SECOND FORM's CARD OF 'steelyardlaw09.BinsPlays'. -/
def binsPlaysUptoCard : Claim7 := { stood := { row := binsPlaysUptoRow, standIns := [], harness := (true, "fb8a9071a769408023dfff38daed4a9ce48de01adf0bb492b0606beb3363d3ec"), looks := false }, kinds := [], alts := [], laidByText := true, laidKinds := [.data], laidTests := true, laidLooks := .later }
def BinsPlaysUptoCardSaid : Prop := Claim7.holds Tryz.pinned (.plain (OpenSpec.upto binsPlaysSpec)) binsPlaysUptoCard
end Rows
end Go.Proofs.YtdaphmoojpbddaaGreatDoor
