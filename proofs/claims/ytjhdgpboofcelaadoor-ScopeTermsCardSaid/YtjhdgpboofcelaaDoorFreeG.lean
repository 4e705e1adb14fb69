/- XFree's laws at operations with guards. No condition. -/
import Derived.Test.YtjhdgpboofcelaaDoorFreeR
namespace Go.Proofs.YtjhdgpboofcelaaDoor
open Go.RowKit
section
variable {P : Program} {ops : Array Oper} {Q : Exit → Act → World → Prop} {S : World → Prop}
theorem wpOp_wanted {Q : Exit → Act → World → Prop} {K' : Act → World → Prop} {i : Nat} {o : Oper} {a : Act} {w : World} (ho : ops[i]? = some o) (hg : Region.wanted o (yielded ops a.tmps) = true)
    (h : ∀ K : Act → World → Prop, (∀ a w, K' a w → K a w) → o.wp P a w K Q) : wpOp P ops Q i K' a w := by
  unfold wpOp
  simp only [ho]
  rw [if_pos hg]
  exact .inl (h _ fun _ _ h => h)
theorem wpOp_unwanted {Q : Exit → Act → World → Prop} {K' : Act → World → Prop} {i : Nat} {o : Oper} {a : Act} {w : World} (ho : ops[i]? = some o) (hg : Region.wanted o (yielded ops a.tmps) = false)
    (h : K' (a.put o.dst undef) w) : wpOp P ops Q i K' a w := by
  unfold wpOp
  simp only [ho]
  rw [if_neg (by rw [hg]; decide)]
  exact h
theorem wpAnyC_oneW (i : Nat) {ts : List Nat} {f : Nat} {listed : Array Bool} {o : Oper} {a : Act} {w : World} (ho : ops[i]? = some o) (hg : Region.wanted o (yielded ops a.tmps) = true) (hr : (Region.ready .any ops listed == [i]) = true)
    (h : ∀ K : Act → World → Prop, (∀ a w, (ts.contains i = true ∨ S w) → wpAnyC P ops Q S ts f (listed.setIfInBounds i true) a w → K a w) → o.wp P a w K Q) : wpAnyC P ops Q S ts (f + 1) listed a w := by
  intro hs hQ hcl
  have hr' := eq_of_beq hr
  refine ⟨fun h0 => (by rw [hr'] at h0; cases h0), fun j hj => ?_⟩
  have hcl' := hcl.set hj
  rw [hr'] at hj
  obtain rfl : j = i := by simpa using hj
  exact wpOp_wanted ho hg fun K hK => h K fun a w h1 h2 => hK a w ⟨h1.imp id (fun h _ => h), h2 hs hQ hcl'⟩
theorem wpAnyC_skipW (i : Nat) {ts : List Nat} {f : Nat} {listed : Array Bool} {o : Oper} {a : Act} {w : World} (ho : ops[i]? = some o) (hg : Region.wanted o (yielded ops a.tmps) = false) (hr : (Region.ready .any ops listed == [i]) = true) (ht : ts.contains i = true) (he : a.put o.dst undef = a)
    (h : wpAnyC P ops Q S ts f (listed.setIfInBounds i true) a w) : wpAnyC P ops Q S ts (f + 1) listed a w := by
  intro hs hQ hcl
  have hr' := eq_of_beq hr
  refine ⟨fun h0 => (by rw [hr'] at h0; cases h0), fun j hj => ?_⟩
  have hcl' := hcl.set hj
  rw [hr'] at hj
  obtain rfl : j = i := by simpa using hj
  exact wpOp_unwanted ho hg ⟨.inl ht, by rw [he]; exact h hs hQ hcl'⟩
theorem wpAnyC_twoW (i k : Nat) {ts : List Nat} {f : Nat} {listed : Array Bool} {o o' : Oper} {a : Act} {w : World} (ho : ops[i]? = some o) (hg : Region.wanted o (yielded ops a.tmps) = true) (ho' : ops[k]? = some o') (hg' : Region.wanted o' (yielded ops a.tmps) = true) (hr : (Region.ready .any ops listed == [i, k]) = true)
    (h : ∀ K : Act → World → Prop, (∀ a w, (ts.contains i = true ∨ S w) → wpAnyC P ops Q S ts f (listed.setIfInBounds i true) a w → K a w) → o.wp P a w K Q)
    (h' : ∀ K : Act → World → Prop, (∀ a w, (ts.contains k = true ∨ S w) → wpAnyC P ops Q S ts f (listed.setIfInBounds k true) a w → K a w) → o'.wp P a w K Q) : wpAnyC P ops Q S ts (f + 1) listed a w := by
  intro hs hQ hcl
  have hr' := eq_of_beq hr
  refine ⟨fun h0 => (by rw [hr'] at h0; cases h0), fun j hj => ?_⟩
  have hcl' := hcl.set hj
  rw [hr'] at hj
  rcases (by simpa using hj : j = i ∨ j = k) with rfl | rfl
  · exact wpOp_wanted ho hg fun K hK => h K fun a w h1 h2 => hK a w ⟨h1.imp id (fun h _ => h), h2 hs hQ hcl'⟩
  · exact wpOp_wanted ho' hg' fun K hK => h' K fun a w h1 h2 => hK a w ⟨h1.imp id (fun h _ => h), h2 hs hQ hcl'⟩
end
end Go.Proofs.YtjhdgpboofcelaaDoor
