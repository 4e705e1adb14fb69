/- Package hist: Total; the law's shown. -/
import Derived.Test.YtnoemopaplopdaaHO
namespace Go.Proofs.Ytnoemopaplopdaa
open Go.RowKit Go.Maps

def totalH (f : Int) (L : List (Int × Nat)) : Nat := rankH f L 18446744073709551615
theorem total_any (f : Int) (v : Value) (L : List (Int × Nat)) (w : World) (hL : BinsAt w.heap.size w v L) :
    Calls Try.prog 23 #[HistV f v] w fun e w' => e = .returned (.int .u64 (totalH f L : Nat)) ∧ Below w.heap.size w w' := by
  have hR : ∀ W, Below w.heap.size w W → Calls Try.prog 22 #[HistV f v, .int .u64 18446744073709551615] W fun e w' => e = .returned (.int .u64 (totalH f L : Nat)) ∧ Below W.heap.size W w' := fun W hb => rank_any f 18446744073709551615 v L W (hL.at_ hb) (by decide)
  go_enter Try.func23, Try.ntmps23
  go_wp2_with fail
  with_reducible refine Calls.mono (Calls.gr0 (hR _ (by repeat (first | exact Below.refl _ _ | assumption | (refine Below.setCell ?_ (by (first | omega | (simp; done) | (simp; omega) | (simp at *; omega))) _) | (refine Below.alloc ?_ (by (first | omega | (simp; done) | (simp; omega) | (simp at *; omega))) _) | (refine Below.drew ?_) | (refine Gr.into _ ?_ (by (first | omega | (simp; done) | (simp; omega) | (simp at *; omega)))))))) ?_
  rintro e w' ⟨rfl, g, rfl⟩
  have hgl := g.le
  try simp only [World.size_alloc] at hgl
  try simp only [World.size_setCell] at hgl
  go_wp2_with fail
  go_ret
  exact ⟨rfl, (by repeat (first | exact Below.refl _ _ | assumption | (refine Below.setCell ?_ (by (first | omega | (simp; done) | (simp; omega) | (simp at *; omega))) _) | (refine Below.alloc ?_ (by (first | omega | (simp; done) | (simp; omega) | (simp at *; omega))) _) | (refine Below.drew ?_) | (refine Gr.into _ ?_ (by (first | omega | (simp; done) | (simp; omega) | (simp at *; omega))))))⟩
end Go.Proofs.Ytnoemopaplopdaa
