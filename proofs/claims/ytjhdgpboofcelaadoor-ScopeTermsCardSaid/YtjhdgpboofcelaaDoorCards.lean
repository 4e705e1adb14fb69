/-
  DERIVED. GIVEN WITH THE SEED: THE CARDS: each row of YtjhdgpboofcelaaDoorRows.lean that lists a variable, with what it lists TIED to the program's text (the seventh form; the later family's looks); each row that meets fmt, with fmt's text TOLD by the authors' own Lean function (tested against real Go, not proved from fmt's source: count such statements apart). THE CARD IS WHAT COUNTS. Prove the row's statement (the work); the ties are given (YtjhdgpboofcelaaDoorTie.lean); close each card by the builder's one call (the guide's Derived/Test/ToyasCard.lean, 'card_holds'). Laid BY PROGRAM, IN A SANDBOX (cutbox-door.mjs). By AI agents, Wed Nov 11 2026. No macro, syntax, notation, axiom, sorry.
-/
import Derived.Test.YtjhdgpboofcelaaDoorRows
import GoSem.ClaimSeven
namespace Go.Proofs.YtjhdgpboofcelaaDoor
namespace Rows

/-- THE TIED CARD OF 'aviarylaw05.ScopeJoins'. -/
def scopeJoinsCard : Claim7 := { stood := { row := scopeJoinsRow, standIns := [], harness := (true, "65fb3ac91880b5e097736a4e17792509da1dd237c479062a83df9c8c1fe62ce2"), looks := true }, kinds := [], alts := [], laidByText := true, laidKinds := [.data, .pinned], laidTests := true, laidLooks := .later }
def ScopeJoinsCardSaid : Prop := Claim7.holds Tryd.pinned (.plain (OpenSpec.ofChange scopeJoinsSpec)) scopeJoinsCard

/-- THE TIED CARD OF 'aviarylaw05.ScopeTerms'. -/
def scopeTermsCard : Claim7 := { stood := { row := scopeTermsRow, standIns := [], harness := (true, "65fb3ac91880b5e097736a4e17792509da1dd237c479062a83df9c8c1fe62ce2"), looks := true }, kinds := [], alts := [], laidByText := true, laidKinds := [.data, .pinned], laidTests := true, laidLooks := .later }
def ScopeTermsCardSaid : Prop := Claim7.holds Tryd.pinned (.plain (OpenSpec.ofChange scopeTermsSpec)) scopeTermsCard

/-- THE SECOND FORM's CARD OF 'aviarylaw05.ScopeJoins'. -/
def scopeJoinsUptoCard : Claim7 := { stood := { row := scopeJoinsUptoRow, standIns := [], harness := (true, "65fb3ac91880b5e097736a4e17792509da1dd237c479062a83df9c8c1fe62ce2"), looks := true }, kinds := [], alts := [], laidByText := true, laidKinds := [.data, .pinned], laidTests := true, laidLooks := .later }
def ScopeJoinsUptoCardSaid : Prop := Claim7.holds Tryd.pinned (.plain (OpenSpec.upto scopeJoinsSpec)) scopeJoinsUptoCard

/-- THE SECOND FORM's CARD OF 'aviarylaw05.ScopeTerms'. -/
def scopeTermsUptoCard : Claim7 := { stood := { row := scopeTermsUptoRow, standIns := [], harness := (true, "65fb3ac91880b5e097736a4e17792509da1dd237c479062a83df9c8c1fe62ce2"), looks := true }, kinds := [], alts := [], laidByText := true, laidKinds := [.data, .pinned], laidTests := true, laidLooks := .later }
def ScopeTermsUptoCardSaid : Prop := Claim7.holds Tryd.pinned (.plain (OpenSpec.upto scopeTermsSpec)) scopeTermsUptoCard
end Rows
end Go.Proofs.YtjhdgpboofcelaaDoor
