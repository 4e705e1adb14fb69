/- strings.NewReplacer; package label: joined. -/
import Derived.Test.YtjhdgpboofcelaaGreatD1
namespace Go.Proofs.YtjhdgpboofcelaaGreat
open Go.RowKit

theorem newRep_any (o0 : Nat) (w : World) (ho : RowAt w o0 9 [.string sC, .string sEC, .string sE, .string sEE]) :
    Calls Tryz.prog 55 #[.slice (some ⟨o0, 0, none⟩) 4 4] w fun e w' => ∃ r, e = .returned (.pointer (some ⟨r, 0, none⟩)) ∧ w.heap.size ≤ r ∧ RepF w' r ∧ Below w.heap.size w w' := by
  obtain ⟨oc0, oc1, oc2, oc3⟩ : w.cell? ⟨o0, 0, none⟩ = some (.string sC) ∧ w.cell? ⟨o0, 1, none⟩ = some (.string sEC) ∧ w.cell? ⟨o0, 2, none⟩ = some (.string sE) ∧ w.cell? ⟨o0, 3, none⟩ = some (.string sEE) := ⟨ho.cell 0 (by simp), ho.cell 1 (by simp), ho.cell 2 (by simp), ho.cell 3 (by simp)⟩
  go_enter Tryz.func55, Tryz.ntmps55
  go_wp2
  generalize (Question.appendCap 4 0 9).cut (w.tape w.drawn (Question.appendCap 4 0 9)) = c at *
  go_ret
  refine ⟨_, rfl, ?_, ⟨w.heap.size, c, ?_, ?_⟩, (by repeat (first | exact Below.refl _ _ | assumption | (refine Below.setCell ?_ (by (first | omega | (simp; done) | (simp; omega) | (simp at *; omega))) _) | (refine Below.alloc ?_ (by (first | omega | (simp; done) | (simp; omega) | (simp at *; omega))) _) | (refine Below.drew ?_) | (refine Gr.into _ ?_ (by (first | omega | (simp; done) | (simp; omega) | (simp at *; omega))))))⟩
  · simp
  · refine RowAt.drew ?_
    exact RowAt.new_at _ _ _ _ (by simp)
  · refine RowAt.drew (RowAt.alloc ?_ _)
    have h := (RowAt.of_new w (#[.string sC, .string sEC, .string sE, .string sEE] ++ Builtin.zeroCells #[.string ⟨#[]⟩] (c - 4)) 9).take 4
    simpa using h
end Go.Proofs.YtjhdgpboofcelaaGreat
