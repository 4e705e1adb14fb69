/- Labels in memory: what is said of them. No condition. -/
import Derived.Test.YtjhdgpboofcelaaDoorC3
namespace Go.Proofs.YtjhdgpboofcelaaDoor
open Go.RowKit

theorem ownsRow_same {w W : World} {base : Nat} {e : TypeId} {size n : Nat} {v : Value} {xs : List Value} (h : w.ownsRow base e size v n xs) (hb : ∀ k, base ≤ k → k < w.heap.size → W.heap[k]? = w.heap[k]?) : W.ownsRow base e size v n xs := by
  obtain ⟨h1, h2 | ⟨g, cap, cur, rfl, h3, h4, h5, h6, h7, h8⟩⟩ := h
  · exact ⟨h1, .inl h2⟩
  · exact ⟨h1, .inr ⟨g, cap, cur, rfl, h3, (hb g h3 (Array.getElem?_eq_some_iff.1 h4).1).trans h4, h5, h6, h7, h8⟩⟩
theorem ownsRow_below {w W : World} {base : Nat} {e : TypeId} {size n : Nat} {v : Value} {xs : List Value} (h : w.ownsRow base e size v n xs) (hb : Below w.heap.size w W) : W.ownsRow base e size v n xs := ownsRow_same h fun k _ hk => hb.block k hk
def labCells (L : List BLab) : List Value := L.flatMap fun x => [.string x.1, .string x.2]
theorem labCells_append (A B : List BLab) : labCells (A ++ B) = labCells A ++ labCells B := by simp [labCells]
theorem labCells_length (L : List BLab) : (labCells L).length = L.length * 2 := by
  induction L with
  | nil => rfl
  | cons x L ih => rw [show labCells (x :: L) = [.string x.1, .string x.2] ++ labCells L from rfl, List.length_append, ih]; simp; omega
theorem labCells_get : ∀ (L : List BLab) (i : Nat) (h : i < L.length), (labCells L)[i * 2]? = some (.string L[i].1) ∧ (labCells L)[i * 2 + 1]? = some (.string L[i].2)
  | [], i, h => by simp at h
  | x :: L, 0, _ => ⟨rfl, rfl⟩
  | x :: L, i + 1, h => by
    have := labCells_get L i (by simpa using h)
    have e : labCells (x :: L) = .string x.1 :: .string x.2 :: labCells L := rfl
    rw [e, show (i + 1) * 2 = i * 2 + 1 + 1 by omega]
    simpa using this
theorem labels_own (w : World) (M g cap : Nat) (L : List BLab) (h : w.ownsRow M 37 2 (.slice (some ⟨g, 0, none⟩) L.length cap) L.length (labCells L)) : L.length ≤ cap := by
  obtain ⟨h1, ⟨h2, h3⟩ | ⟨g', cap', cur, h2, h3, h4, h5, h6⟩⟩ := h
  · cases h2
  · simp only [Value.slice.injEq, Option.some.injEq, Addr.mk.injEq, and_true, true_and] at h2
    obtain ⟨rfl, rfl⟩ := h2
    exact h5
theorem LabelsAt.form {B : Nat} {w : World} {v : Value} {L : List BLab} (h : LabelsAt B w v L) : L.length ≤ 1000000 ∧ ∃ p cap, v = .slice p L.length cap ∧ (L ≠ [] → ∃ a off, p = some ⟨a, off, none⟩ ∧ a < B ∧ L.length ≤ cap ∧ ∀ i (h : i < L.length), w.cell? ⟨a, off + i * 2, none⟩ = some (.string L[i].1) ∧ w.cell? ⟨a, off + i * 2 + 1, none⟩ = some (.string L[i].2)) := by
  obtain ⟨-, n2, ⟨a, rfl, rfl⟩ | ⟨a, off, cap, rfl, h4, h5, h6⟩⟩ := h
  · exact ⟨n2, a, 0, rfl, fun h => absurd rfl h⟩
  · exact ⟨n2, some ⟨a, off, none⟩, cap, rfl, fun _ => ⟨a, off, rfl, h4, h5, h6⟩⟩
end Go.Proofs.YtjhdgpboofcelaaDoor
