/- Layer 5: ScopeTerms; texts that came in. -/
import Derived.Test.YtjhdgpboofcelaaDoorSQ
import Derived.SliceStrings
namespace Go.Proofs.YtjhdgpboofcelaaDoor
open Go.RowKit Go.ChangeShapes Go.WideShapes

theorem texts_of {H : Type} {enc : TypeId × Value → H} {w : World} {fuel : Nat} {p : Option Addr} {len cap : Nat} {x : DataW H × List MemPlace}
    (h : DataW.trod enc Tryd.prog w 0 (fun _ => true) true fuel 28 [.slice p len cap] = some x) : len ≤ cap ∧ cap ≤ maxLen ∧ ∃ Z, TextsAt w p len Z := by
  rcases open_strings Tryd.underlying28 Tryd.underlying9 (by kernel_rfl) h with ⟨hcs, _⟩ | ⟨a, len', cap', ss, hcs, _, hl, hm, hz, _, hcell, hws⟩
  · simp at hcs
    obtain ⟨rfl, rfl, rfl⟩ := hcs
    exact ⟨Nat.le_refl _, by decide, fun _ => ByteArray.empty, fun i hi => by omega, fun h => by omega⟩
  · simp at hcs
    obtain ⟨rfl, rfl, rfl⟩ := hcs
    replace hz : ss.length = cap := by simpa using hz
    refine ⟨hl, hm, fun i => ss.getD i ByteArray.empty, fun i hi => hws _ ?_, fun h0 => ⟨a, rfl, ?_, fun i hi => hcell i (by omega)⟩⟩
    · have hi' : i < ss.length := by omega
      have e : ss.getD i ByteArray.empty = ss[i] := by simp [List.getD, hi']
      show ss.getD i ByteArray.empty ∈ ss
      rw [e]
      exact List.getElem_mem _
    · have := World.block_lt_of_cell? w _ (hcell 0 (by omega))
      have e : a.add 0 = a := by simp [Addr.add]
      rw [e] at this
      exact this
end Go.Proofs.YtjhdgpboofcelaaDoor
