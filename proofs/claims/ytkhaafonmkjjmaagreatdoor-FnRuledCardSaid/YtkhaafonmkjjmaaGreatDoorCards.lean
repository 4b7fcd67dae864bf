/-
  DERIVED. GIVEN WITH THE SEED: THE CARDS: each row of YtkhaafonmkjjmaaGreatDoorRows.lean that lists a variable, with what it lists TIED to the program's text (the seventh form; the later family's looks); each row that meets fmt, with fmt's text TOLD by the authors' own Lean function (tested against real Go, not proved from fmt's source: count such statements apart). THE CARD IS WHAT COUNTS. Prove the row's statement (the work); the ties are given (YtkhaafonmkjjmaaGreatDoorTie.lean); close each card by the builder's one call (the guide's Derived/Test/ToyasCard.lean, 'card_holds'). Laid BY PROGRAM, IN A SANDBOX (cutbox-door.mjs). By AI agents, Wed Nov 11 2026. No macro, syntax, notation, axiom, sorry.
-/
import Derived.Test.YtkhaafonmkjjmaaGreatDoorRows
import GoSem.ClaimSeven
namespace Go.Proofs.YtkhaafonmkjjmaaGreatDoor
namespace Rows

/-- THE TIED CARD OF 'laws.FnMatched'. -/
def fnMatchedCard : Claim7 := { stood := { row := fnMatchedRow, standIns := [], harness := (true, "c99bd44b53ead8106e75f2e13399971a6dd76a00ee3cd00e9166cd04a503d2c1"), looks := true }, kinds := [], alts := [], laidByText := true, laidKinds := [.data, .data, .data, .sentinel, .sentinel], laidTests := true, laidLooks := .later }
def FnMatchedCardSaid : Prop := Claim7.holds Tryz.pinned (.plain (OpenSpec.ofChange fnMatchedSpec)) fnMatchedCard

/-- THE TIED CARD OF 'laws.FnFound'. -/
def fnFoundCard : Claim7 := { stood := { row := fnFoundRow, standIns := [], harness := (true, "c99bd44b53ead8106e75f2e13399971a6dd76a00ee3cd00e9166cd04a503d2c1"), looks := true }, kinds := [], alts := [], laidByText := true, laidKinds := [.data, .data, .data, .sentinel, .sentinel], laidTests := true, laidLooks := .later }
def FnFoundCardSaid : Prop := Claim7.holds Tryz.pinned (.plain (OpenSpec.ofChange fnFoundSpec)) fnFoundCard

/-- THE TIED CARD OF 'laws.FnRuled'. -/
def fnRuledCard : Claim7 := { stood := { row := fnRuledRow, standIns := [], harness := (true, "c99bd44b53ead8106e75f2e13399971a6dd76a00ee3cd00e9166cd04a503d2c1"), looks := true }, kinds := [], alts := [], laidByText := true, laidKinds := [.data, .data, .data, .sentinel, .sentinel], laidTests := true, laidLooks := .later }
def FnRuledCardSaid : Prop := Claim7.holds Tryz.pinned (.plain (OpenSpec.ofChange fnRuledSpec)) fnRuledCard

/-- THE SECOND FORM's CARD OF 'laws.FnMatched'. -/
def fnMatchedUptoCard : Claim7 := { stood := { row := fnMatchedUptoRow, standIns := [], harness := (true, "c99bd44b53ead8106e75f2e13399971a6dd76a00ee3cd00e9166cd04a503d2c1"), looks := true }, kinds := [], alts := [], laidByText := true, laidKinds := [.data, .data, .data, .sentinel, .sentinel], laidTests := true, laidLooks := .later }
def FnMatchedUptoCardSaid : Prop := Claim7.holds Tryz.pinned (.plain (OpenSpec.upto fnMatchedSpec)) fnMatchedUptoCard

/-- THE SECOND FORM's CARD OF 'laws.FnFound'. -/
def fnFoundUptoCard : Claim7 := { stood := { row := fnFoundUptoRow, standIns := [], harness := (true, "c99bd44b53ead8106e75f2e13399971a6dd76a00ee3cd00e9166cd04a503d2c1"), looks := true }, kinds := [], alts := [], laidByText := true, laidKinds := [.data, .data, .data, .sentinel, .sentinel], laidTests := true, laidLooks := .later }
def FnFoundUptoCardSaid : Prop := Claim7.holds Tryz.pinned (.plain (OpenSpec.upto fnFoundSpec)) fnFoundUptoCard

/-- THE SECOND FORM's CARD OF 'laws.FnRuled'. -/
def fnRuledUptoCard : Claim7 := { stood := { row := fnRuledUptoRow, standIns := [], harness := (true, "c99bd44b53ead8106e75f2e13399971a6dd76a00ee3cd00e9166cd04a503d2c1"), looks := true }, kinds := [], alts := [], laidByText := true, laidKinds := [.data, .data, .data, .sentinel, .sentinel], laidTests := true, laidLooks := .later }
def FnRuledUptoCardSaid : Prop := Claim7.holds Tryz.pinned (.plain (OpenSpec.upto fnRuledSpec)) fnRuledUptoCard
end Rows
end Go.Proofs.YtkhaafonmkjjmaaGreatDoor
