/-
  DERIVED. GIVEN WITH THE SEED: THE CARDS: each row of YtgfpdlebnbpcfabDoorRows.lean that lists a variable, with what it lists TIED to the program's text (the seventh form; the later family's looks); each row that meets fmt, with fmt's text TOLD by the authors' own Lean function (tested against real Go, not proved from fmt's source: count such statements apart). THE CARD IS WHAT COUNTS. Prove the row's statement (the work); the ties are given (YtgfpdlebnbpcfabDoorTie.lean); close each card by the builder's one call (the guide's Derived/Test/ToyasCard.lean, 'card_holds'). Laid BY PROGRAM, IN A SANDBOX (cutbox-door.mjs). By AI agents, Wed Nov 11 2026. No macro, syntax, notation, axiom, sorry.
-/
import Derived.Test.YtgfpdlebnbpcfabDoorRows
import GoSem.ClaimSeven
namespace Go.Proofs.YtgfpdlebnbpcfabDoor
namespace Rows

/-- THE TIED CARD OF 'laws.FnExactSignedIn'. -/
def fnExactSignedInCard : Claim7 := { stood := { row := fnExactSignedInRow, standIns := [], harness := (true, "9f25efe806fbc1f7f27563922a1024a426d0e5c464c34787d120f54a0fbf062b"), looks := false }, kinds := [], alts := [], laidByText := true, laidKinds := [.data, .data, .data], laidTests := true, laidLooks := .later }
def FnExactSignedInCardSaid : Prop := Claim7.holds Tryd.pinned (.plain (OpenSpec.ofChange fnExactSignedInSpec)) fnExactSignedInCard

/-- THE SECOND FORM's CARD OF 'laws.FnExactSignedIn'. -/
def fnExactSignedInUptoCard : Claim7 := { stood := { row := fnExactSignedInUptoRow, standIns := [], harness := (true, "9f25efe806fbc1f7f27563922a1024a426d0e5c464c34787d120f54a0fbf062b"), looks := false }, kinds := [], alts := [], laidByText := true, laidKinds := [.data, .data, .data], laidTests := true, laidLooks := .later }
def FnExactSignedInUptoCardSaid : Prop := Claim7.holds Tryd.pinned (.plain (OpenSpec.upto fnExactSignedInSpec)) fnExactSignedInUptoCard
end Rows
end Go.Proofs.YtgfpdlebnbpcfabDoor
