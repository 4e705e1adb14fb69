/- Package hist: Add, Merge, Lower. -/
import Derived.Test.YtnoemopaplopdaaHJ
namespace Go.Proofs.Ytnoemopaplopdaa
open Go.RowKit Go.Maps

/-- A histogram and a number of what is wrong, as a result. -/
abbrev histRes (f : Int) (v : Value) (e : Int) : Ending := .returned (.tuple #[HistV f v, .int .i64 e])

/-- Bins that fit and rise. -/
structure Good (M : List (Int × Nat)) : Prop where
  rising : Rising M
  fits : ∀ b ∈ M, -9223372036854775808 ≤ b.1 ∧ b.1 ≤ 9223372036854775807 ∧ b.2 < 18446744073709551616
theorem Good.fit {M : List (Int × Nat)} (h : Good M) : FitM M := fun p hp => by have := h.fits p hp; unfold maxU; omega
theorem Good.nil : Good [] := ⟨List.Pairwise.nil, fun b hb => by cases hb⟩
theorem mem_insM {x p : Int × Nat} : ∀ {M : List (Int × Nat)}, p ∈ insM x M ↔ p = x ∨ p ∈ M
  | [] => by simp [insM]
  | y :: r => by
    unfold insM
    split
    · simp
    · simp only [List.mem_cons, mem_insM (M := r)]
      constructor
      · rintro (h | h | h) <;> simp [h]
      · rintro (h | h | h) <;> simp [h]
theorem rising_insM {x : Int × Nat} : ∀ {M : List (Int × Nat)}, Rising M → (∀ p ∈ M, p.1 ≠ x.1) → Rising (insM x M)
  | [], _, _ => by simp [insM, Rising]
  | y :: r, hR, hne => by
    have h := List.pairwise_cons.1 hR
    unfold insM
    split
    · rename_i hlt
      refine List.pairwise_cons.2 ⟨fun q hq => ?_, hR⟩
      rcases List.mem_cons.1 hq with rfl | hq
      · exact hlt
      · have := h.1 q hq; omega
    · rename_i hlt
      have hy := hne y (by simp)
      refine List.pairwise_cons.2 ⟨fun q hq => ?_, rising_insM h.2 fun p hp => hne p (by simp [hp])⟩
      rcases mem_insM.1 hq with rfl | hq
      · omega
      · exact h.1 q hq
theorem Good.delM {M : List (Int × Nat)} (h : Good M) (a : Int) : Good (delM M a) :=
  ⟨h.rising.sublist List.filter_sublist, fun b hb => h.fits b (List.mem_filter.1 hb).1⟩
theorem Good.addB {M : List (Int × Nat)} (h : Good M) {b : Int × Nat} (hb : -9223372036854775808 ≤ b.1 ∧ b.1 ≤ 9223372036854775807) : Good (addB M b) := by
  unfold Proofs.Ytnoemopaplopdaa.addB
  split
  · exact h.delM _
  · refine ⟨rising_insM (h.delM _).rising fun p hp => by simpa [Proofs.Ytnoemopaplopdaa.delM] using (List.mem_filter.1 hp).2, fun p hp => ?_⟩
    rcases mem_insM.1 hp with rfl | hp
    · refine ⟨hb.1, hb.2, ?_⟩
      have : satU (getM M b.1) b.2 ≤ maxU := Nat.min_le_right _ _
      unfold maxU at this
      show satU _ _ < _
      omega
    · exact (h.delM _).fits p hp
theorem Good.addBs {L : List (Int × Nat)} : ∀ {M : List (Int × Nat)}, Good M → (∀ b ∈ L, -9223372036854775808 ≤ b.1 ∧ b.1 ≤ 9223372036854775807) → Good (L.foldl Proofs.Ytnoemopaplopdaa.addB M) := by
  induction L with
  | nil => intro M h _; exact h
  | cons b L ih => intro M h hL; exact ih (h.addB (hL b (by simp))) fun q hq => hL q (by simp [hq])
end Go.Proofs.Ytnoemopaplopdaa
