/-
  DERIVED. GIVEN WITH THE SEED: THE CARDS: each row of YtnndbiialpaccaaGreatDoorRows.lean that lists a variable, with what it lists TIED to the program's text (the seventh form; the later family's looks); each row that meets fmt, with fmt's text TOLD by the authors' own Lean function (tested against real Go, not proved from fmt's source: count such statements apart). THE CARD IS WHAT COUNTS. Prove the row's statement (the work); the ties are given (YtnndbiialpaccaaGreatDoorTie.lean); close each card by the builder's one call (the guide's Derived/Test/ToyasCard.lean, 'card_holds'). Laid BY PROGRAM, IN A SANDBOX (cutbox-door.mjs). By AI agents, Wed Nov 11 2026. No macro, syntax, notation, axiom, sorry.
-/
import Derived.Test.YtnndbiialpaccaaGreatDoorRows
import GoSem.ClaimSeven
namespace Go.Proofs.YtnndbiialpaccaaGreatDoor
namespace Rows

/-- THE TIED CARD OF 'laws.FnLinked'. -/
def fnLinkedCard : Claim7 := { stood := { row := fnLinkedRow, standIns := [], harness := (true, "4cdd4b8fba197521823a9ec988abab7212a861545cd6b87022a5b579d440095b"), looks := false }, kinds := [], alts := [], laidByText := true, laidKinds := [.widerDeep], laidTests := true, laidLooks := .later }
def FnLinkedCardSaid : Prop := Claim7.holds Tryz.pinned (.plain (OpenSpec.ofChange fnLinkedSpec)) fnLinkedCard

/-- THE SECOND FORM's CARD OF 'laws.FnLinked'. -/
def fnLinkedUptoCard : Claim7 := { stood := { row := fnLinkedUptoRow, standIns := [], harness := (true, "4cdd4b8fba197521823a9ec988abab7212a861545cd6b87022a5b579d440095b"), looks := false }, kinds := [], alts := [], laidByText := true, laidKinds := [.widerDeep], laidTests := true, laidLooks := .later }
def FnLinkedUptoCardSaid : Prop := Claim7.holds Tryz.pinned (.plain (OpenSpec.upto fnLinkedSpec)) fnLinkedUptoCard
end Rows
end Go.Proofs.YtnndbiialpaccaaGreatDoor
