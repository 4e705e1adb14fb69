/- Plain laws on registers: right ones stay right. -/
import Derived.Test.YtngahohheleeeaaDoorA6
namespace Go.Proofs.YtngahohheleeeaaDoor
open Go.RowKit

theorem rightB_iff (b : Nat) (l : List UInt8) : rightB b l = true ↔ 3 ≤ b ∧ b ≤ 8 ∧ l.length = 2 ^ b ∧ ∀ c ∈ l, c.toNat ≤ 65 - b := by
  constructor
  · intro h
    obtain ⟨h1, h2⟩ := isBits_bd (rightB_bits h)
    refine ⟨by omega, by omega, rightB_len h, ?_⟩
    simp only [rightB, Bool.and_eq_true] at h
    have h3 := h.2
    simp only [upTo, List.all_eq_true, decide_eq_true_eq] at h3
    intro c hc
    have := h3 c hc
    omega
  · rintro ⟨h1, h2, h3, h4⟩
    simp only [rightB, Bool.and_eq_true]
    refine ⟨⟨by simp [isBitsB]; omega, ?_⟩, ?_⟩
    · simp only [pwr, h3]
      simp
    · simp only [upTo, List.all_eq_true, decide_eq_true_eq]
      intro c hc
      have := h4 c hc
      omega
theorem toNat_max (x y : UInt8) : (max x y).toNat = max x.toNat y.toNat := by
  have := umax2 x y
  omega
theorem rightB_addReg {b : Nat} {l : List UInt8} (h : rightB b l = true) (n : Nat) : rightB b (addReg b l n) = true := by
  rw [rightB_iff] at h ⊢
  obtain ⟨h1, h2, h3, h4⟩ := h
  refine ⟨h1, h2, by rw [addReg_length, h3], ?_⟩
  intro c hc
  unfold addReg at hc
  rcases List.mem_or_eq_of_mem_set hc with hc | rfl
  · exact h4 c hc
  · rw [toNat_max]
    have h5 := rankN_bd (b := b) (n := n) h2
    have h6 : (l.getD (atN b n) 0).toNat ≤ 65 - b := by
      by_cases hi : atN b n < l.length
      · rw [List.getD_eq_getElem?_getD, List.getElem?_eq_getElem hi]
        exact h4 _ (List.getElem_mem hi)
      · rw [List.getD_eq_getElem?_getD, List.getElem?_eq_none (by omega)]
        simp
    have h7 : (UInt8.ofNat (rankN b n)).toNat = rankN b n := by simp; omega
    omega
theorem rightB_addRegs {b : Nat} (zs : List Nat) : ∀ {l : List UInt8}, rightB b l = true → rightB b (addRegs b l zs) = true := by
  induction zs with
  | nil => intro l h; exact h
  | cons z zs ih => intro l h; exact ih (rightB_addReg h z)
end Go.Proofs.YtngahohheleeeaaDoor
