/-
  No cell of these rows narrows 'for every input' (looked for: loops, veiled, ifaces, maps, wideKeys, modest, calm, conditions, laid).
  DERIVED. THE GIVEN ROWS OF THIS SEAT. 5 by the template 'for every input the law returns true; each argument reads behind the call as it read before'; 0 by the template 'total and deterministic' (their statements: YtngahohheleeeaaTotals.lean).
  GIVEN WITH THE SEED: the statements are not yours to turn. If you find one false, say at which input.
  Laid BY PROGRAM, IN A SANDBOX (cutbox-rows.mjs): the forced cells as the released guide's own fill.sh prints them over the translation 61b724e9819808d1… (all of the seat's roots in one cut). By AI agents, Wed Nov 11 2026. No macro, syntax, notation, axiom, sorry.
-/
import Derived.Test.YtngahohheleeeaaChecked
import GoSem.Claim
import GoSem.ClaimJoined
import GoSem.ClaimMapViews
import Derived.JoinedTies
import Derived.KernelRfl
namespace Go.Proofs.Ytngahohheleeeaa
/- THE CELL 'sum', in the pinned program and in every row, IS THE sha256 OF THE DUMP (.gsa) THAT YtngahohheleeeaaProg.lean LOADS. Nothing in Lean hashes anything: it is a label: what it is worth is what the hold of that sum in a sandbox is worth. -/
noncomputable def Try.pinned : Pinned := { name := "ytngahohheleeeaa", sum := "61b724e9819808d1f0384ae689f55311b1fa22f15b7ec4fb1574e565e03cb763", checked := Try.checked }
namespace Rows
def none {H : Type} : Left H := { results := [], args := [] }

/-- 'aviarylaw07.HllMakes': WHATEVER THE INPUT: true; the input reads as it did. -/
def hllMakesSpec : ChangeSpec := { name := "hllMakes", fn := fun _ => fun
  | [d1, d2, d3, d4] => { results := [.lit (.bool true)], args := [d1, d2, d3, d4] }
  | _ => none }
def hllMakesRow : OpenClaim := { program := "ytngahohheleeeaa", sum := "61b724e9819808d1f0384ae689f55311b1fa22f15b7ec4fb1574e565e03cb763", func := "aviary/aviarylaw07.HllMakes", spec := "hllMakes", inPlace := ["internal/abi.NoEscape", "internal/bytealg.MakeNoZero"], apart := false }
def HllMakesSaid : Prop := hllMakesRow.holds Try.pinned (OpenSpec.ofChange hllMakesSpec)

/-- ITS FALSE NEIGHBOUR: 'it returns false'. Refute it at one input. -/
def hllMakesWrong : ChangeSpec := { name := "hllMakes", fn := fun _ => fun
  | [d1, d2, d3, d4] => { results := [.lit (.bool false)], args := [d1, d2, d3, d4] }
  | _ => none }
def HllMakesWrongFalsely : Prop := hllMakesRow.holds Try.pinned (OpenSpec.ofChange hllMakesWrong)

/-- 'aviarylaw07.HllOnce': WHATEVER THE INPUT: true; the input reads as it did. -/
def hllOnceSpec : ChangeSpec := { name := "hllOnce", fn := fun _ => fun
  | [d1, d2, d3] => { results := [.lit (.bool true)], args := [d1, d2, d3] }
  | _ => none }
def hllOnceRow : OpenClaim := { program := "ytngahohheleeeaa", sum := "61b724e9819808d1f0384ae689f55311b1fa22f15b7ec4fb1574e565e03cb763", func := "aviary/aviarylaw07.HllOnce", spec := "hllOnce", inPlace := ["internal/abi.NoEscape", "internal/bytealg.MakeNoZero"], apart := false }
def HllOnceSaid : Prop := hllOnceRow.holds Try.pinned (OpenSpec.ofChange hllOnceSpec)

/-- ITS FALSE NEIGHBOUR: 'it returns false'. Refute it at one input. -/
def hllOnceWrong : ChangeSpec := { name := "hllOnce", fn := fun _ => fun
  | [d1, d2, d3] => { results := [.lit (.bool false)], args := [d1, d2, d3] }
  | _ => none }
def HllOnceWrongFalsely : Prop := hllOnceRow.holds Try.pinned (OpenSpec.ofChange hllOnceWrong)

/-- 'aviarylaw07.HllParts': WHATEVER THE INPUT: true; the input reads as it did. -/
def hllPartsSpec : ChangeSpec := { name := "hllParts", fn := fun _ => fun
  | [d1, d2, d3] => { results := [.lit (.bool true)], args := [d1, d2, d3] }
  | _ => none }
def hllPartsRow : OpenClaim := { program := "ytngahohheleeeaa", sum := "61b724e9819808d1f0384ae689f55311b1fa22f15b7ec4fb1574e565e03cb763", func := "aviary/aviarylaw07.HllParts", spec := "hllParts", inPlace := ["internal/abi.NoEscape", "internal/bytealg.MakeNoZero"], unfollowed := true, recurses := true, apart := false }
def HllPartsSaid : Prop := hllPartsRow.holds Try.pinned (OpenSpec.ofChange hllPartsSpec)

/-- ITS FALSE NEIGHBOUR: 'it returns false'. Refute it at one input. -/
def hllPartsWrong : ChangeSpec := { name := "hllParts", fn := fun _ => fun
  | [d1, d2, d3] => { results := [.lit (.bool false)], args := [d1, d2, d3] }
  | _ => none }
def HllPartsWrongFalsely : Prop := hllPartsRow.holds Try.pinned (OpenSpec.ofChange hllPartsWrong)

/-- 'aviarylaw07.HllLowers': WHATEVER THE INPUT: true; the input reads as it did. -/
def hllLowersSpec : ChangeSpec := { name := "hllLowers", fn := fun _ => fun
  | [d1, d2, d3] => { results := [.lit (.bool true)], args := [d1, d2, d3] }
  | _ => none }
def hllLowersRow : OpenClaim := { program := "ytngahohheleeeaa", sum := "61b724e9819808d1f0384ae689f55311b1fa22f15b7ec4fb1574e565e03cb763", func := "aviary/aviarylaw07.HllLowers", spec := "hllLowers", inPlace := ["internal/abi.NoEscape", "internal/bytealg.MakeNoZero"], unfollowed := true, recurses := true, apart := false }
def HllLowersSaid : Prop := hllLowersRow.holds Try.pinned (OpenSpec.ofChange hllLowersSpec)

/-- ITS FALSE NEIGHBOUR: 'it returns false'. Refute it at one input. -/
def hllLowersWrong : ChangeSpec := { name := "hllLowers", fn := fun _ => fun
  | [d1, d2, d3] => { results := [.lit (.bool false)], args := [d1, d2, d3] }
  | _ => none }
def HllLowersWrongFalsely : Prop := hllLowersRow.holds Try.pinned (OpenSpec.ofChange hllLowersWrong)

/-- 'aviarylaw07.HllRules': WHATEVER THE INPUT: true; the input reads as it did. -/
def hllRulesSpec : ChangeSpec := { name := "hllRules", fn := fun _ => fun
  | [d1, d2, d3, d4] => { results := [.lit (.bool true)], args := [d1, d2, d3, d4] }
  | _ => none }
def hllRulesRow : OpenClaim := { program := "ytngahohheleeeaa", sum := "61b724e9819808d1f0384ae689f55311b1fa22f15b7ec4fb1574e565e03cb763", func := "aviary/aviarylaw07.HllRules", spec := "hllRules", inPlace := ["internal/abi.NoEscape", "internal/bytealg.MakeNoZero"], unfollowed := true, recurses := true, apart := false }
def HllRulesSaid : Prop := hllRulesRow.holds Try.pinned (OpenSpec.ofChange hllRulesSpec)

/-- ITS FALSE NEIGHBOUR: 'it returns false'. Refute it at one input. -/
def hllRulesWrong : ChangeSpec := { name := "hllRules", fn := fun _ => fun
  | [d1, d2, d3, d4] => { results := [.lit (.bool false)], args := [d1, d2, d3, d4] }
  | _ => none }
def HllRulesWrongFalsely : Prop := hllRulesRow.holds Try.pinned (OpenSpec.ofChange hllRulesWrong)

/- THE SECOND FORM. 'bulk': how many values and letters a reading holds, each counted each time it is reached (what is shared counts as often as it is met; a slice's spare places count too). A statement '..UptoSaid' is the law's where the arguments, and the package variables that the reading takes, are together of bulk at most 1048576: NARROWER than '..Said'. Prove '..Said' where nothing that the law and all that it calls make is longer than what came in: it says more and counts as full. Else prove '..UptoSaid'. A law counts once. -/
mutual
def uptoBulk {H : Type} : DataW H → Nat
  | .lit (.string bytes) => bytes.length + 1
  | .lit _ => 1
  | .nil => 1
  | .ptr d => uptoBulk d + 1
  | .slice elems spare => uptoBulkAll elems + uptoBulkAll spare + 1
  | .agg parts => uptoBulkAll parts + 1
  | .iface _ d => uptoBulk d + 1
  | .map entries => uptoBulkEntries entries + 1
  | .held _ => 1
def uptoBulkAll {H : Type} : List (DataW H) → Nat
  | [] => 0
  | d :: r => uptoBulk d + uptoBulkAll r
def uptoBulkEntries {H : Type} : List (Lit × DataW H) → Nat
  | [] => 0
  | x :: r => uptoBulkEntry x + uptoBulkEntries r
def uptoBulkEntry {H : Type} : Lit × DataW H → Nat
  | (.string bytes, d) => bytes.length + uptoBulk d + 1
  | (_, d) => uptoBulk d + 1
 end
def uptoSmall : (H : Type) → List (DataW H) → Bool := fun _ ds => decide (uptoBulkAll ds ≤ 1048576)
def OpenSpec.upto (s : _root_.Go.ChangeSpec) : _root_.Go.OpenSpec := { _root_.Go.OpenSpec.ofChange s with cond := some uptoSmall }

/-- 'aviarylaw07.HllMakes', WHERE WHAT IT READS IS OF BULK AT MOST 1048576: true; the input reads as it did. -/
def hllMakesUptoRow : OpenClaim := { program := "ytngahohheleeeaa", sum := "61b724e9819808d1f0384ae689f55311b1fa22f15b7ec4fb1574e565e03cb763", func := "aviary/aviarylaw07.HllMakes", spec := "hllMakes", inPlace := ["internal/abi.NoEscape", "internal/bytealg.MakeNoZero"], apart := false, narrowed := true }
def HllMakesUptoSaid : Prop := hllMakesUptoRow.holds Try.pinned (OpenSpec.upto hllMakesSpec)

/-- 'aviarylaw07.HllOnce', WHERE WHAT IT READS IS OF BULK AT MOST 1048576: true; the input reads as it did. -/
def hllOnceUptoRow : OpenClaim := { program := "ytngahohheleeeaa", sum := "61b724e9819808d1f0384ae689f55311b1fa22f15b7ec4fb1574e565e03cb763", func := "aviary/aviarylaw07.HllOnce", spec := "hllOnce", inPlace := ["internal/abi.NoEscape", "internal/bytealg.MakeNoZero"], apart := false, narrowed := true }
def HllOnceUptoSaid : Prop := hllOnceUptoRow.holds Try.pinned (OpenSpec.upto hllOnceSpec)

/-- 'aviarylaw07.HllParts', WHERE WHAT IT READS IS OF BULK AT MOST 1048576: true; the input reads as it did. -/
def hllPartsUptoRow : OpenClaim := { program := "ytngahohheleeeaa", sum := "61b724e9819808d1f0384ae689f55311b1fa22f15b7ec4fb1574e565e03cb763", func := "aviary/aviarylaw07.HllParts", spec := "hllParts", inPlace := ["internal/abi.NoEscape", "internal/bytealg.MakeNoZero"], unfollowed := true, recurses := true, apart := false, narrowed := true }
def HllPartsUptoSaid : Prop := hllPartsUptoRow.holds Try.pinned (OpenSpec.upto hllPartsSpec)

/-- 'aviarylaw07.HllLowers', WHERE WHAT IT READS IS OF BULK AT MOST 1048576: true; the input reads as it did. -/
def hllLowersUptoRow : OpenClaim := { program := "ytngahohheleeeaa", sum := "61b724e9819808d1f0384ae689f55311b1fa22f15b7ec4fb1574e565e03cb763", func := "aviary/aviarylaw07.HllLowers", spec := "hllLowers", inPlace := ["internal/abi.NoEscape", "internal/bytealg.MakeNoZero"], unfollowed := true, recurses := true, apart := false, narrowed := true }
def HllLowersUptoSaid : Prop := hllLowersUptoRow.holds Try.pinned (OpenSpec.upto hllLowersSpec)

/-- 'aviarylaw07.HllRules', WHERE WHAT IT READS IS OF BULK AT MOST 1048576: true; the input reads as it did. -/
def hllRulesUptoRow : OpenClaim := { program := "ytngahohheleeeaa", sum := "61b724e9819808d1f0384ae689f55311b1fa22f15b7ec4fb1574e565e03cb763", func := "aviary/aviarylaw07.HllRules", spec := "hllRules", inPlace := ["internal/abi.NoEscape", "internal/bytealg.MakeNoZero"], unfollowed := true, recurses := true, apart := false, narrowed := true }
def HllRulesUptoSaid : Prop := hllRulesUptoRow.holds Try.pinned (OpenSpec.upto hllRulesSpec)

end Rows
end Go.Proofs.Ytngahohheleeeaa
