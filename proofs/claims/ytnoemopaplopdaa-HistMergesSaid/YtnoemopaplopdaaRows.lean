/-
  No cell of these rows narrows 'for every input' (looked for: loops, veiled, ifaces, maps, wideKeys, modest, calm, conditions, laid).
  DERIVED. THE GIVEN ROWS OF THIS SEAT. 8 by the template 'for every input the law returns true; each argument reads behind the call as it read before'; 0 by the template 'total and deterministic' (their statements: YtnoemopaplopdaaTotals.lean).
  GIVEN WITH THE SEED: the statements are not yours to turn. If you find one false, say at which input.
  Laid BY PROGRAM, IN A SANDBOX (cutbox-rows.mjs): the forced cells as the released guide's own fill.sh prints them over the translation d2bb64fe3c6aca75… (all of the seat's roots in one cut). By AI agents, Wed Nov 11 2026. No macro, syntax, notation, axiom, sorry.
-/
import Derived.Test.YtnoemopaplopdaaChecked
import GoSem.Claim
import GoSem.ClaimJoined
import GoSem.ClaimMapViews
import Derived.JoinedTies
import Derived.KernelRfl
namespace Go.Proofs.Ytnoemopaplopdaa
/- THE CELL 'sum', in the pinned program and in every row, IS THE sha256 OF THE DUMP (.gsa) THAT YtnoemopaplopdaaProg.lean LOADS. Nothing in Lean hashes anything: it is a label: what it is worth is what the hold of that sum in a sandbox is worth. -/
noncomputable def Try.pinned : Pinned := { name := "ytnoemopaplopdaa", sum := "d2bb64fe3c6aca75e04a4d0d8e78f6aaf2e68b4d5828366159782cf7025bcf21", checked := Try.checked }
namespace Rows
def none {H : Type} : Left H := { results := [], args := [] }

/-- 'aviarylaw09.HistBuckets': WHATEVER THE INPUT: true; the input reads as it did. -/
def histBucketsSpec : ChangeSpec := { name := "histBuckets", fn := fun _ => fun
  | [d1, d2, d3, d4, d5] => { results := [.lit (.bool true)], args := [d1, d2, d3, d4, d5] }
  | _ => none }
def histBucketsRow : OpenClaim := { program := "ytnoemopaplopdaa", sum := "d2bb64fe3c6aca75e04a4d0d8e78f6aaf2e68b4d5828366159782cf7025bcf21", func := "aviary/aviarylaw09.HistBuckets", spec := "histBuckets", unfollowed := true, recurses := true, apart := false }
def HistBucketsSaid : Prop := histBucketsRow.holds Try.pinned (OpenSpec.ofChange histBucketsSpec)

/-- ITS FALSE NEIGHBOUR: 'it returns false'. Refute it at one input. -/
def histBucketsWrong : ChangeSpec := { name := "histBuckets", fn := fun _ => fun
  | [d1, d2, d3, d4, d5] => { results := [.lit (.bool false)], args := [d1, d2, d3, d4, d5] }
  | _ => none }
def HistBucketsWrongFalsely : Prop := histBucketsRow.holds Try.pinned (OpenSpec.ofChange histBucketsWrong)

/-- 'aviarylaw09.HistBounds': WHATEVER THE INPUT: true; the input reads as it did. -/
def histBoundsSpec : ChangeSpec := { name := "histBounds", fn := fun _ => fun
  | [d1, d2, d3] => { results := [.lit (.bool true)], args := [d1, d2, d3] }
  | _ => none }
def histBoundsRow : OpenClaim := { program := "ytnoemopaplopdaa", sum := "d2bb64fe3c6aca75e04a4d0d8e78f6aaf2e68b4d5828366159782cf7025bcf21", func := "aviary/aviarylaw09.HistBounds", spec := "histBounds", unfollowed := true, recurses := true, apart := false }
def HistBoundsSaid : Prop := histBoundsRow.holds Try.pinned (OpenSpec.ofChange histBoundsSpec)

/-- ITS FALSE NEIGHBOUR: 'it returns false'. Refute it at one input. -/
def histBoundsWrong : ChangeSpec := { name := "histBounds", fn := fun _ => fun
  | [d1, d2, d3] => { results := [.lit (.bool false)], args := [d1, d2, d3] }
  | _ => none }
def HistBoundsWrongFalsely : Prop := histBoundsRow.holds Try.pinned (OpenSpec.ofChange histBoundsWrong)

/-- 'aviarylaw09.HistRanks': WHATEVER THE INPUT: true; the input reads as it did. -/
def histRanksSpec : ChangeSpec := { name := "histRanks", fn := fun _ => fun
  | [d1, d2, d3, d4] => { results := [.lit (.bool true)], args := [d1, d2, d3, d4] }
  | _ => none }
def histRanksRow : OpenClaim := { program := "ytnoemopaplopdaa", sum := "d2bb64fe3c6aca75e04a4d0d8e78f6aaf2e68b4d5828366159782cf7025bcf21", func := "aviary/aviarylaw09.HistRanks", spec := "histRanks", unfollowed := true, recurses := true, apart := false }
def HistRanksSaid : Prop := histRanksRow.holds Try.pinned (OpenSpec.ofChange histRanksSpec)

/-- ITS FALSE NEIGHBOUR: 'it returns false'. Refute it at one input. -/
def histRanksWrong : ChangeSpec := { name := "histRanks", fn := fun _ => fun
  | [d1, d2, d3, d4] => { results := [.lit (.bool false)], args := [d1, d2, d3, d4] }
  | _ => none }
def HistRanksWrongFalsely : Prop := histRanksRow.holds Try.pinned (OpenSpec.ofChange histRanksWrong)

/-- 'aviarylaw09.HistFull': WHATEVER THE INPUT: true; the input reads as it did. -/
def histFullSpec : ChangeSpec := { name := "histFull", fn := fun _ => fun
  | [d1, d2, d3, d4] => { results := [.lit (.bool true)], args := [d1, d2, d3, d4] }
  | _ => none }
def histFullRow : OpenClaim := { program := "ytnoemopaplopdaa", sum := "d2bb64fe3c6aca75e04a4d0d8e78f6aaf2e68b4d5828366159782cf7025bcf21", func := "aviary/aviarylaw09.HistFull", spec := "histFull", unfollowed := true, recurses := true, apart := false }
def HistFullSaid : Prop := histFullRow.holds Try.pinned (OpenSpec.ofChange histFullSpec)

/-- ITS FALSE NEIGHBOUR: 'it returns false'. Refute it at one input. -/
def histFullWrong : ChangeSpec := { name := "histFull", fn := fun _ => fun
  | [d1, d2, d3, d4] => { results := [.lit (.bool false)], args := [d1, d2, d3, d4] }
  | _ => none }
def HistFullWrongFalsely : Prop := histFullRow.holds Try.pinned (OpenSpec.ofChange histFullWrong)

/-- 'aviarylaw09.HistGrows': WHATEVER THE INPUT: true; the input reads as it did. -/
def histGrowsSpec : ChangeSpec := { name := "histGrows", fn := fun _ => fun
  | [d1, d2, d3, d4] => { results := [.lit (.bool true)], args := [d1, d2, d3, d4] }
  | _ => none }
def histGrowsRow : OpenClaim := { program := "ytnoemopaplopdaa", sum := "d2bb64fe3c6aca75e04a4d0d8e78f6aaf2e68b4d5828366159782cf7025bcf21", func := "aviary/aviarylaw09.HistGrows", spec := "histGrows", unfollowed := true, recurses := true, apart := false }
def HistGrowsSaid : Prop := histGrowsRow.holds Try.pinned (OpenSpec.ofChange histGrowsSpec)

/-- ITS FALSE NEIGHBOUR: 'it returns false'. Refute it at one input. -/
def histGrowsWrong : ChangeSpec := { name := "histGrows", fn := fun _ => fun
  | [d1, d2, d3, d4] => { results := [.lit (.bool false)], args := [d1, d2, d3, d4] }
  | _ => none }
def HistGrowsWrongFalsely : Prop := histGrowsRow.holds Try.pinned (OpenSpec.ofChange histGrowsWrong)

/-- 'aviarylaw09.HistParts': WHATEVER THE INPUT: true; the input reads as it did. -/
def histPartsSpec : ChangeSpec := { name := "histParts", fn := fun _ => fun
  | [d1, d2, d3] => { results := [.lit (.bool true)], args := [d1, d2, d3] }
  | _ => none }
def histPartsRow : OpenClaim := { program := "ytnoemopaplopdaa", sum := "d2bb64fe3c6aca75e04a4d0d8e78f6aaf2e68b4d5828366159782cf7025bcf21", func := "aviary/aviarylaw09.HistParts", spec := "histParts", unfollowed := true, recurses := true, apart := false }
def HistPartsSaid : Prop := histPartsRow.holds Try.pinned (OpenSpec.ofChange histPartsSpec)

/-- ITS FALSE NEIGHBOUR: 'it returns false'. Refute it at one input. -/
def histPartsWrong : ChangeSpec := { name := "histParts", fn := fun _ => fun
  | [d1, d2, d3] => { results := [.lit (.bool false)], args := [d1, d2, d3] }
  | _ => none }
def HistPartsWrongFalsely : Prop := histPartsRow.holds Try.pinned (OpenSpec.ofChange histPartsWrong)

/-- 'aviarylaw09.HistLowers': WHATEVER THE INPUT: true; the input reads as it did. -/
def histLowersSpec : ChangeSpec := { name := "histLowers", fn := fun _ => fun
  | [d1, d2] => { results := [.lit (.bool true)], args := [d1, d2] }
  | _ => none }
def histLowersRow : OpenClaim := { program := "ytnoemopaplopdaa", sum := "d2bb64fe3c6aca75e04a4d0d8e78f6aaf2e68b4d5828366159782cf7025bcf21", func := "aviary/aviarylaw09.HistLowers", spec := "histLowers", unfollowed := true, recurses := true, apart := false }
def HistLowersSaid : Prop := histLowersRow.holds Try.pinned (OpenSpec.ofChange histLowersSpec)

/-- ITS FALSE NEIGHBOUR: 'it returns false'. Refute it at one input. -/
def histLowersWrong : ChangeSpec := { name := "histLowers", fn := fun _ => fun
  | [d1, d2] => { results := [.lit (.bool false)], args := [d1, d2] }
  | _ => none }
def HistLowersWrongFalsely : Prop := histLowersRow.holds Try.pinned (OpenSpec.ofChange histLowersWrong)

/-- 'aviarylaw09.HistMerges': WHATEVER THE INPUT: true; the input reads as it did. -/
def histMergesSpec : ChangeSpec := { name := "histMerges", fn := fun _ => fun
  | [d1, d2, d3, d4] => { results := [.lit (.bool true)], args := [d1, d2, d3, d4] }
  | _ => none }
def histMergesRow : OpenClaim := { program := "ytnoemopaplopdaa", sum := "d2bb64fe3c6aca75e04a4d0d8e78f6aaf2e68b4d5828366159782cf7025bcf21", func := "aviary/aviarylaw09.HistMerges", spec := "histMerges", unfollowed := true, recurses := true, apart := false }
def HistMergesSaid : Prop := histMergesRow.holds Try.pinned (OpenSpec.ofChange histMergesSpec)

/-- ITS FALSE NEIGHBOUR: 'it returns false'. Refute it at one input. -/
def histMergesWrong : ChangeSpec := { name := "histMerges", fn := fun _ => fun
  | [d1, d2, d3, d4] => { results := [.lit (.bool false)], args := [d1, d2, d3, d4] }
  | _ => none }
def HistMergesWrongFalsely : Prop := histMergesRow.holds Try.pinned (OpenSpec.ofChange histMergesWrong)

/- THE SECOND FORM. 'bulk': how many values and letters a reading holds, each counted each time it is reached (what is shared counts as often as it is met; a slice's spare places count too). A statement '..UptoSaid' is the law's where the arguments, and the package variables that the reading takes, are together of bulk at most 1048576: NARROWER than '..Said'. Prove '..Said' where nothing that the law and all that it calls make is longer than what came in: it says more and counts as full. Else prove '..UptoSaid'. A law counts once. -/
mutual
def uptoBulk {H : Type} : DataW H → Nat
  | .lit (.string bytes) => bytes.length + 1
  | .lit _ => 1
  | .nil => 1
  | .ptr d => uptoBulk d + 1
  | .slice elems spare => uptoBulkAll elems + uptoBulkAll spare + 1
  | .agg parts => uptoBulkAll parts + 1
  | .iface _ d => uptoBulk d + 1
  | .map entries => uptoBulkEntries entries + 1
  | .held _ => 1
def uptoBulkAll {H : Type} : List (DataW H) → Nat
  | [] => 0
  | d :: r => uptoBulk d + uptoBulkAll r
def uptoBulkEntries {H : Type} : List (Lit × DataW H) → Nat
  | [] => 0
  | x :: r => uptoBulkEntry x + uptoBulkEntries r
def uptoBulkEntry {H : Type} : Lit × DataW H → Nat
  | (.string bytes, d) => bytes.length + uptoBulk d + 1
  | (_, d) => uptoBulk d + 1
 end
def uptoSmall : (H : Type) → List (DataW H) → Bool := fun _ ds => decide (uptoBulkAll ds ≤ 1048576)
def OpenSpec.upto (s : _root_.Go.ChangeSpec) : _root_.Go.OpenSpec := { _root_.Go.OpenSpec.ofChange s with cond := some uptoSmall }

/-- 'aviarylaw09.HistBuckets', WHERE WHAT IT READS IS OF BULK AT MOST 1048576: true; the input reads as it did. -/
def histBucketsUptoRow : OpenClaim := { program := "ytnoemopaplopdaa", sum := "d2bb64fe3c6aca75e04a4d0d8e78f6aaf2e68b4d5828366159782cf7025bcf21", func := "aviary/aviarylaw09.HistBuckets", spec := "histBuckets", unfollowed := true, recurses := true, apart := false, narrowed := true }
def HistBucketsUptoSaid : Prop := histBucketsUptoRow.holds Try.pinned (OpenSpec.upto histBucketsSpec)

/-- 'aviarylaw09.HistBounds', WHERE WHAT IT READS IS OF BULK AT MOST 1048576: true; the input reads as it did. -/
def histBoundsUptoRow : OpenClaim := { program := "ytnoemopaplopdaa", sum := "d2bb64fe3c6aca75e04a4d0d8e78f6aaf2e68b4d5828366159782cf7025bcf21", func := "aviary/aviarylaw09.HistBounds", spec := "histBounds", unfollowed := true, recurses := true, apart := false, narrowed := true }
def HistBoundsUptoSaid : Prop := histBoundsUptoRow.holds Try.pinned (OpenSpec.upto histBoundsSpec)

/-- 'aviarylaw09.HistRanks', WHERE WHAT IT READS IS OF BULK AT MOST 1048576: true; the input reads as it did. -/
def histRanksUptoRow : OpenClaim := { program := "ytnoemopaplopdaa", sum := "d2bb64fe3c6aca75e04a4d0d8e78f6aaf2e68b4d5828366159782cf7025bcf21", func := "aviary/aviarylaw09.HistRanks", spec := "histRanks", unfollowed := true, recurses := true, apart := false, narrowed := true }
def HistRanksUptoSaid : Prop := histRanksUptoRow.holds Try.pinned (OpenSpec.upto histRanksSpec)

/-- 'aviarylaw09.HistFull', WHERE WHAT IT READS IS OF BULK AT MOST 1048576: true; the input reads as it did. -/
def histFullUptoRow : OpenClaim := { program := "ytnoemopaplopdaa", sum := "d2bb64fe3c6aca75e04a4d0d8e78f6aaf2e68b4d5828366159782cf7025bcf21", func := "aviary/aviarylaw09.HistFull", spec := "histFull", unfollowed := true, recurses := true, apart := false, narrowed := true }
def HistFullUptoSaid : Prop := histFullUptoRow.holds Try.pinned (OpenSpec.upto histFullSpec)

/-- 'aviarylaw09.HistGrows', WHERE WHAT IT READS IS OF BULK AT MOST 1048576: true; the input reads as it did. -/
def histGrowsUptoRow : OpenClaim := { program := "ytnoemopaplopdaa", sum := "d2bb64fe3c6aca75e04a4d0d8e78f6aaf2e68b4d5828366159782cf7025bcf21", func := "aviary/aviarylaw09.HistGrows", spec := "histGrows", unfollowed := true, recurses := true, apart := false, narrowed := true }
def HistGrowsUptoSaid : Prop := histGrowsUptoRow.holds Try.pinned (OpenSpec.upto histGrowsSpec)

/-- 'aviarylaw09.HistParts', WHERE WHAT IT READS IS OF BULK AT MOST 1048576: true; the input reads as it did. -/
def histPartsUptoRow : OpenClaim := { program := "ytnoemopaplopdaa", sum := "d2bb64fe3c6aca75e04a4d0d8e78f6aaf2e68b4d5828366159782cf7025bcf21", func := "aviary/aviarylaw09.HistParts", spec := "histParts", unfollowed := true, recurses := true, apart := false, narrowed := true }
def HistPartsUptoSaid : Prop := histPartsUptoRow.holds Try.pinned (OpenSpec.upto histPartsSpec)

/-- 'aviarylaw09.HistLowers', WHERE WHAT IT READS IS OF BULK AT MOST 1048576: true; the input reads as it did. -/
def histLowersUptoRow : OpenClaim := { program := "ytnoemopaplopdaa", sum := "d2bb64fe3c6aca75e04a4d0d8e78f6aaf2e68b4d5828366159782cf7025bcf21", func := "aviary/aviarylaw09.HistLowers", spec := "histLowers", unfollowed := true, recurses := true, apart := false, narrowed := true }
def HistLowersUptoSaid : Prop := histLowersUptoRow.holds Try.pinned (OpenSpec.upto histLowersSpec)

/-- 'aviarylaw09.HistMerges', WHERE WHAT IT READS IS OF BULK AT MOST 1048576: true; the input reads as it did. -/
def histMergesUptoRow : OpenClaim := { program := "ytnoemopaplopdaa", sum := "d2bb64fe3c6aca75e04a4d0d8e78f6aaf2e68b4d5828366159782cf7025bcf21", func := "aviary/aviarylaw09.HistMerges", spec := "histMerges", unfollowed := true, recurses := true, apart := false, narrowed := true }
def HistMergesUptoSaid : Prop := histMergesUptoRow.holds Try.pinned (OpenSpec.upto histMergesSpec)

end Rows
end Go.Proofs.Ytnoemopaplopdaa
