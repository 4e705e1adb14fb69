/- Package hist: Right at every slice; plus. -/
import Derived.Test.YtnoemopaplopdaaHC
namespace Go.Proofs.Ytnoemopaplopdaa
open Go.RowKit

theorem right_any (f : Int) (v : Value) (L : List (Int × Nat)) (w : World) (hL : BinsAt w.heap.size w v L) :
    Calls Try.prog 19 #[HistV f v] w fun e w' => e = .returned (.bool (rightL f L)) ∧ Below w.heap.size w w' := by
  obtain ⟨h1, h2, ⟨a, rfl, rfl⟩ | ⟨a, off, cap, rfl, h3, hc, h4⟩⟩ := hL
  · have hr : rightL f [] = fineB f := by simp [rightL, rightFrom]
    rw [hr]
    rcases a with _ | a
    all_goals
      go_enter Try.func19, Try.ntmps19
      go_wp2
      go_step3
      go_wp2_with (first | (go_at_call 35; (first | (with_reducible refine Calls.mono (Calls.gr (below_self (isFine_any _ _))) ?_) | (refine Calls.mono (Calls.gr0 (below_self (isFine_any _ _))) ?_)); rintro e w' ⟨rfl, g, rfl⟩; have hgl := g.le; (try simp only [World.size_alloc] at hgl); (try simp only [World.size_setCell] at hgl)))
      go_step3
      go_wp2
      refine wp_loop_rounds 1 ?_
      rw [rounds_succ]
      go_wp2
      rw [Exit.noGoto_ret]
      go_ret
      exact ⟨rfl, (by repeat (first | exact Below.refl _ _ | assumption | (refine Below.setCell ?_ (by (first | omega | (simp; done) | (simp; omega) | (simp at *; omega))) _) | (refine Below.alloc ?_ (by (first | omega | (simp; done) | (simp; omega) | (simp at *; omega))) _) | (refine Below.drew ?_) | (refine Gr.into _ ?_ (by (first | omega | (simp; done) | (simp; omega) | (simp at *; omega))))))⟩
  · exact right_some f a off cap L w h1 h2 h3 h4

def maxU : Nat := 18446744073709551615
/-- A sum, saturated. -/
def satU (x y : Nat) : Nat := min (x + y) maxU
theorem plus_two (x y : Nat) (a : Nat) (w : World) (hx : x ≤ maxU) (hy : y ≤ maxU) (h0 : w.cell? ⟨a, 0, none⟩ = some (.int .u64 x)) (h1 : w.cell? ⟨a, 1, none⟩ = some (.int .u64 y)) :
    Calls Try.prog 46 #[.slice (some ⟨a, 0, none⟩) 2 2] w fun e w' => e = .returned (.int .u64 (satU x y : Nat)) ∧ w = w' := by
  unfold maxU at hx hy
  have e1 : min (x : Int) 18446744073709551615 = x := by omega
  have e2 : (x : Int) + min (y : Int) (18446744073709551615 - x) = (satU x y : Nat) := by unfold satU maxU; omega
  have hal : a < w.heap.size := by
    rcases Nat.lt_or_ge a w.heap.size with h | h
    · exact h
    · simp [World.cell?, Array.getElem?_eq_none h] at h0
  go_enter Try.func46, Try.ntmps46
  go_wp2
  refine wp_loop_rounds 3 ?_
  rw [rounds_succ]
  go_wp2
  rw [rounds_succ]
  go_wp2
  rw [rounds_succ]
  go_wp2
  go_ret
  exact ⟨rfl, rfl⟩
end Go.Proofs.Ytnoemopaplopdaa
