/- Layer 5, plain: scopes of more terms. No condition. -/
import Derived.Test.YtjhdgpboofcelaaDoorSN
namespace Go.Proofs.YtjhdgpboofcelaaDoor
open Go.RowKit
open Go.Lib (decodeL validD)

theorem splitA_join : ∀ (s t : List UInt8), splitA (s ++ 59 :: t) = splitA s ++ splitA t
  | [], t => by
    show splitA (59 :: t) = [] :: splitA t
    rw [splitA]
    simp
  | c :: s, t => by
    rw [List.cons_append, splitA, splitA, splitA_join s t]
    by_cases hc : c = 59
    · rw [if_pos hc, if_pos hc]
      rfl
    · rw [if_neg hc, if_neg hc]
      cases hs : splitA s with
      | nil => exact absurd hs (split_ne s)
      | cons y ys => rfl
theorem termsA_join (s t : List UInt8) : termsA (s ++ 59 :: t) = termsA s ++ termsA t := by
  unfold termsA
  rw [splitA_join, List.map_append]
/-- A scope, one term more. -/
def nextA (s t : List UInt8) : List UInt8 := if s.isEmpty then t else s ++ 59 :: t
theorem nextA_ne (s t : List UInt8) (h : t ≠ []) : nextA s t ≠ [] := by
  unfold nextA
  split
  · exact h
  · simp
/-- What is known of the scope gathered, and of what its terms told. -/
def Gathered (L : List BLab) (s : List UInt8) (all : Bool) : Prop := (s = [] ∧ all = true) ∨ (s ≠ [] ∧ rightSA s = true ∧ rightA L = true ∧ all = (termsA s).all (meansT L))
theorem gathered_start (L : List BLab) : Gathered L [] true := .inl ⟨rfl, rfl⟩
theorem meansA_ok (t : List UInt8) (L : List BLab) (h : (meansA t L).2 = 0) (hne : t ≠ []) : rightA L = true ∧ (meansA t L).1 = (termsA t).all (meansT L) := by
  unfold meansA at *
  by_cases hc : (rightSA t && rightA L) = true
  · rw [if_pos hc]
    simp only [Bool.and_eq_true] at hc
    refine ⟨hc.2, ?_⟩
    cases t with
    | nil => exact absurd rfl hne
    | cons c t => rfl
  · rw [if_neg hc] at h
    cases h
theorem gathered_more {L : List BLab} {s t : List UInt8} {all : Bool} (h : Gathered L s all) (hne : t ≠ []) (he : (meansA t L).2 = 0) (hr : rightSA (nextA s t) = true) : Gathered L (nextA s t) (all && (meansA t L).1) := by
  obtain ⟨h1, h2⟩ := meansA_ok t L he hne
  rcases h with ⟨rfl, rfl⟩ | ⟨h3, h4, h5, h6⟩
  · exact .inr ⟨nextA_ne _ _ hne, hr, h1, by rw [h2]; rfl⟩
  · refine .inr ⟨nextA_ne _ _ hne, hr, h1, ?_⟩
    have e : nextA s t = s ++ 59 :: t := by
      unfold nextA
      rw [if_neg (by simpa using h3)]
    rw [e, termsA_join, List.all_append, h6, h2]
theorem gathered_end {L : List BLab} {s : List UInt8} {all : Bool} (h : Gathered L s all) : meansA s L = if rightA L then (all, 0) else (false, 50) := by
  rcases h with ⟨rfl, rfl⟩ | ⟨h3, h4, h5, h6⟩
  · unfold meansA
    have e : rightSA [] = true := rfl
    rw [e, Bool.true_and]
    cases rightA L <;> rfl
  · unfold meansA
    rw [h4, h5, Bool.true_and, if_pos rfl, if_pos rfl, h6]
    cases s with
    | nil => exact absurd rfl h3
    | cons c s => rfl
end Go.Proofs.YtjhdgpboofcelaaDoor
