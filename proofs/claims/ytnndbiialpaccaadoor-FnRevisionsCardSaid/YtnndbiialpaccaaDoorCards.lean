/-
  DERIVED. GIVEN WITH THE SEED: THE CARDS: each row of YtnndbiialpaccaaDoorRows.lean that lists a variable, with what it lists TIED to the program's text (the seventh form; the later family's looks); each row that meets fmt, with fmt's text TOLD by the authors' own Lean function (tested against real Go, not proved from fmt's source: count such statements apart). THE CARD IS WHAT COUNTS. Prove the row's statement (the work); the ties are given (YtnndbiialpaccaaDoorTie.lean); close each card by the builder's one call (the guide's Derived/Test/ToyasCard.lean, 'card_holds'). Laid BY PROGRAM, IN A SANDBOX (cutbox-door.mjs). By AI agents, Wed Nov 11 2026. No macro, syntax, notation, axiom, sorry.
-/
import Derived.Test.YtnndbiialpaccaaDoorRows
import GoSem.ClaimSeven
namespace Go.Proofs.YtnndbiialpaccaaDoor
namespace Rows

/-- THE TIED CARD OF 'laws.FnRevisions'. -/
def fnRevisionsCard : Claim7 := { stood := { row := fnRevisionsRow, standIns := [], harness := (true, "0b27922d1603af79cbb0da1a385463fa83fa951b79014cc25dc5663999b5364e"), looks := true }, kinds := [], alts := [], laidByText := true, laidKinds := [.data, .data, .data, .sentinel, .sentinel], laidTests := true, laidLooks := .later }
def FnRevisionsCardSaid : Prop := Claim7.holds Tryd.pinned (.plain (OpenSpec.ofChange fnRevisionsSpec)) fnRevisionsCard

/-- THE SECOND FORM's CARD OF 'laws.FnRevisions'. -/
def fnRevisionsUptoCard : Claim7 := { stood := { row := fnRevisionsUptoRow, standIns := [], harness := (true, "0b27922d1603af79cbb0da1a385463fa83fa951b79014cc25dc5663999b5364e"), looks := true }, kinds := [], alts := [], laidByText := true, laidKinds := [.data, .data, .data, .sentinel, .sentinel], laidTests := true, laidLooks := .later }
def FnRevisionsUptoCardSaid : Prop := Claim7.holds Tryd.pinned (.plain (OpenSpec.upto fnRevisionsSpec)) fnRevisionsUptoCard
end Rows
end Go.Proofs.YtnndbiialpaccaaDoor
