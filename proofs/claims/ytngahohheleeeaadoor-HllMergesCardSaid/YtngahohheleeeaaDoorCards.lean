/-
  DERIVED. GIVEN WITH THE SEED: THE CARDS: each row of YtngahohheleeeaaDoorRows.lean that lists a variable, with what it lists TIED to the program's text (the seventh form; the later family's looks); each row that meets fmt, with fmt's text TOLD by the authors' own Lean function (tested against real Go, not proved from fmt's source: count such statements apart). THE CARD IS WHAT COUNTS. Prove the row's statement (the work); the ties are given (YtngahohheleeeaaDoorTie.lean); close each card by the builder's one call (the guide's Derived/Test/ToyasCard.lean, 'card_holds'). Laid BY PROGRAM, IN A SANDBOX (cutbox-door.mjs). By AI agents, Wed Nov 11 2026. No macro, syntax, notation, axiom, sorry.
-/
import Derived.Test.YtngahohheleeeaaDoorRows
import GoSem.ClaimSeven
namespace Go.Proofs.YtngahohheleeeaaDoor
namespace Rows

/-- THE TIED CARD OF 'aviarylaw07.HllGrows'. -/
def hllGrowsCard : Claim7 := { stood := { row := hllGrowsRow, standIns := [], harness := (true, "1bccc87cd98d39256aec1ef0acf040bebac88669869488fb559c754a9d648d8c"), looks := true }, kinds := [], alts := [], laidByText := true, laidKinds := [.data, .pinned], laidTests := true, laidLooks := .later }
def HllGrowsCardSaid : Prop := Claim7.holds Tryd.pinned (.plain (OpenSpec.ofChange hllGrowsSpec)) hllGrowsCard

/-- THE TIED CARD OF 'aviarylaw07.HllMerges'. -/
def hllMergesCard : Claim7 := { stood := { row := hllMergesRow, standIns := [], harness := (true, "1bccc87cd98d39256aec1ef0acf040bebac88669869488fb559c754a9d648d8c"), looks := true }, kinds := [], alts := [], laidByText := true, laidKinds := [.data, .pinned], laidTests := true, laidLooks := .later }
def HllMergesCardSaid : Prop := Claim7.holds Tryd.pinned (.plain (OpenSpec.ofChange hllMergesSpec)) hllMergesCard

/-- THE SECOND FORM's CARD OF 'aviarylaw07.HllGrows'. -/
def hllGrowsUptoCard : Claim7 := { stood := { row := hllGrowsUptoRow, standIns := [], harness := (true, "1bccc87cd98d39256aec1ef0acf040bebac88669869488fb559c754a9d648d8c"), looks := true }, kinds := [], alts := [], laidByText := true, laidKinds := [.data, .pinned], laidTests := true, laidLooks := .later }
def HllGrowsUptoCardSaid : Prop := Claim7.holds Tryd.pinned (.plain (OpenSpec.upto hllGrowsSpec)) hllGrowsUptoCard

/-- THE SECOND FORM's CARD OF 'aviarylaw07.HllMerges'. -/
def hllMergesUptoCard : Claim7 := { stood := { row := hllMergesUptoRow, standIns := [], harness := (true, "1bccc87cd98d39256aec1ef0acf040bebac88669869488fb559c754a9d648d8c"), looks := true }, kinds := [], alts := [], laidByText := true, laidKinds := [.data, .pinned], laidTests := true, laidLooks := .later }
def HllMergesUptoCardSaid : Prop := Claim7.holds Tryd.pinned (.plain (OpenSpec.upto hllMergesSpec)) hllMergesUptoCard
end Rows
end Go.Proofs.YtngahohheleeeaaDoor
