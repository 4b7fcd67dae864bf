/-
  DERIVED. GIVEN WITH THE SEED: THE CARDS: each row of YtgfpdlebnbpcfaaDoorRows.lean that lists a variable, with what it lists TIED to the program's text (the seventh form; the later family's looks); each row that meets fmt, with fmt's text TOLD by the authors' own Lean function (tested against real Go, not proved from fmt's source: count such statements apart). THE CARD IS WHAT COUNTS. Prove the row's statement (the work); the ties are given (YtgfpdlebnbpcfaaDoorTie.lean); close each card by the builder's one call (the guide's Derived/Test/ToyasCard.lean, 'card_holds'). Laid BY PROGRAM, IN A SANDBOX (cutbox-door.mjs). By AI agents, Wed Nov 11 2026. No macro, syntax, notation, axiom, sorry.
-/
import Derived.Test.YtgfpdlebnbpcfaaDoorRows
import GoSem.ClaimSeven
namespace Go.Proofs.YtgfpdlebnbpcfaaDoor
namespace Rows

/-- THE TIED CARD OF 'laws.FnSessions'. -/
def fnSessionsCard : Claim7 := { stood := { row := fnSessionsRow, standIns := [], harness := (true, "35ebad0e83d3f777e5fd41020f9b73689f4bc0cdf823ff9518c2a69c50dc02bf"), looks := false }, kinds := [], alts := [], laidByText := true, laidKinds := [.data, .data, .data], laidTests := true, laidLooks := .later }
def FnSessionsCardSaid : Prop := Claim7.holds Tryd.pinned (.plain (OpenSpec.ofChange fnSessionsSpec)) fnSessionsCard

/-- THE SECOND FORM's CARD OF 'laws.FnSessions'. -/
def fnSessionsUptoCard : Claim7 := { stood := { row := fnSessionsUptoRow, standIns := [], harness := (true, "35ebad0e83d3f777e5fd41020f9b73689f4bc0cdf823ff9518c2a69c50dc02bf"), looks := false }, kinds := [], alts := [], laidByText := true, laidKinds := [.data, .data, .data], laidTests := true, laidLooks := .later }
def FnSessionsUptoCardSaid : Prop := Claim7.holds Tryd.pinned (.plain (OpenSpec.upto fnSessionsSpec)) fnSessionsUptoCard
end Rows
end Go.Proofs.YtgfpdlebnbpcfaaDoor
