/- XFree's law: reads may be taken first. No condition. -/
import Derived.Test.YtjhdgpboofcelaaDoorFree
namespace Go.Proofs.YtjhdgpboofcelaaDoor
open Go.RowKit

/-- An operation that reads, for which all that may turn the world wait, may be taken first. -/
theorem wpAnyC_readL (i : Nat) {P : Program} {Q : Exit → Act → World → Prop} {S : World → Prop} {l : List Oper} {ts : List Nat} {fuel : Nat} {listed : Array Bool} {a : Act} {w : World} (hS : S w)
    (hB : ((match l[i]? with | some o => readOp o.op | none => false) && (Region.ready .any l.toArray listed).contains i && Region.free .any l.toArray listed i && (ts.all fun t => waitsT .any l.toArray l.toArray.size t i)) = true)
    (h : wpQuiet P l.toArray S (fun a' => wpAnyC P l.toArray Q S ts fuel (listed.setIfInBounds i true) a' w) ((l.drop i).take 1) a) : wpAnyC P l.toArray Q S ts (fuel + 1) listed a w := by
  simp only [Bool.and_eq_true] at hB
  obtain ⟨⟨⟨h1, h2⟩, h3⟩, h4⟩ := hB
  cases ho : l[i]? with
  | none => rw [ho] at h1; cases h1
  | some o =>
    rw [ho] at h1
    have e : (l.drop i).take 1 = [o] := by
      obtain ⟨hlt, rfl⟩ := List.getElem?_eq_some_iff.1 ho
      rw [List.drop_eq_getElem_cons hlt]
      rfl
    rw [e] at h
    have ho' : l.toArray[i]? = some o := by simpa using ho
    intro hs hQ hcl
    have hst : qOp P l.toArray S i (fun a' => wpAnyC P l.toArray Q S ts fuel (listed.setIfInBounds i true) a' w) a := by
      unfold qOp; simp only [ho']
      simpa [wpQuiet] using h
    obtain ⟨v, hy, hK⟩ := yieldsIn_of_qOp ho' hst
    have hr' : i ∈ Region.ready .any l.toArray listed := by simpa using h2
    exact wpAnyT_first (S1 := S) ho' (Region.noSelect_spec hs) (fun c a w => hQ c a w _ _) (fun li j w w' hc hj hun hSw ht => ht.resolve_left (fun hT => by
        have h5 := List.all_eq_true.1 h4 j (by simpa using hT)
        rw [listed_of_waitsT hc _ _ _ h5 (.inr hj)] at hun
        cases hun) hSw) fuel listed a w hcl (Region.free_spec ho' h3) hr' (YieldsIn.read hy h1) hS (hK hs hQ (hcl.set hr'))
end Go.Proofs.YtjhdgpboofcelaaDoor
