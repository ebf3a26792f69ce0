/-
  DERIVED. GIVEN WITH THE SEED: THE CARDS: each row of YtdaphmoojpbddaaDoorRows.lean that lists a variable, with what it lists TIED to the program's text (the seventh form; the later family's looks); each row that meets fmt, with fmt's text TOLD by the authors' own Lean function (tested against real Go, not proved from fmt's source: count such statements apart). THE CARD IS WHAT COUNTS. Prove the row's statement (the work); the ties are given (YtdaphmoojpbddaaDoorTie.lean); close each card by the builder's one call (the guide's Derived/Test/ToyasCard.lean, 'card_holds'). Laid BY PROGRAM, IN A SANDBOX (cutbox-door.mjs). By AI agents, Wed Nov 11 2026. No macro, syntax, notation, axiom, sorry.
-/
import Derived.Test.YtdaphmoojpbddaaDoorRows
import GoSem.ClaimSeven
namespace Go.Proofs.YtdaphmoojpbddaaDoor
namespace Rows

/-- THE TIED CARD OF 'steelyardlaw09.BinsAlike'. -/
def binsAlikeCard : Claim7 := { stood := { row := binsAlikeRow, standIns := [], harness := (true, "5e2acd005a3174589f556dea37d028cd5b5efdcd41070ef209911c0ad03fc5c0"), looks := false }, kinds := [], alts := [], laidByText := true, laidKinds := [.data], laidTests := true, laidLooks := .later }
def BinsAlikeCardSaid : Prop := Claim7.holds Tryd.pinned (.plain (OpenSpec.ofChange binsAlikeSpec)) binsAlikeCard

/-- THE SECOND FORM's CARD OF 'steelyardlaw09.BinsAlike'. -/
def binsAlikeUptoCard : Claim7 := { stood := { row := binsAlikeUptoRow, standIns := [], harness := (true, "5e2acd005a3174589f556dea37d028cd5b5efdcd41070ef209911c0ad03fc5c0"), looks := false }, kinds := [], alts := [], laidByText := true, laidKinds := [.data], laidTests := true, laidLooks := .later }
def BinsAlikeUptoCardSaid : Prop := Claim7.holds Tryd.pinned (.plain (OpenSpec.upto binsAlikeSpec)) binsAlikeUptoCard
end Rows
end Go.Proofs.YtdaphmoojpbddaaDoor
