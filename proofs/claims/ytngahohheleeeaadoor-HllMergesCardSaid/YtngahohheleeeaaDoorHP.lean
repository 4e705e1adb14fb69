/- Plain laws on what a number tells: its register, its rank. No program, no condition. -/
import Derived.Lib.BitFns
import Derived.Lib.ItoaNum
import Derived.Laws.Bits64
import Derived.Below
namespace Go.Proofs.YtngahohheleeeaaDoor
open Go.RowKit

theorem bl_le {x : Nat} (h : x < 2 ^ 64) {k : Nat} : Lib.bitLen x ≤ k ↔ x < 2 ^ k := by
  constructor
  · intro hk
    by_cases h0 : x = 0
    · subst h0; exact Nat.two_pow_pos k
    · have := (Lib.bitLenAux_bounds 64 x h h0).2.2
      exact Nat.lt_of_lt_of_le this (Nat.pow_le_pow_right (by omega) hk)
  · intro hk; exact Lib.bitLenAux_le 64 x k hk
theorem bl_zero : Lib.bitLen 0 = 0 := Lib.bitLenAux_zero 64
theorem bl_eq {x k : Nat} (h : x < 2 ^ 64) (h1 : 2 ^ k ≤ x) (h2 : x < 2 ^ (k + 1)) : Lib.bitLen x = k + 1 := by
  have a := (bl_le h (k := k + 1)).2 h2
  have b : ¬ Lib.bitLen x ≤ k := fun hb => by have := (bl_le h).1 hb; omega
  omega
theorem bl_pos {x : Nat} (h0 : x ≠ 0) (h : x < 2 ^ 64) : 1 ≤ Lib.bitLen x := (Lib.bitLenAux_bounds 64 x h h0).1
theorem bl_mul {m b : Nat} (h0 : m ≠ 0) (h : m * 2 ^ b < 2 ^ 64) : Lib.bitLen (m * 2 ^ b) = Lib.bitLen m + b := by
  have hm : m < 2 ^ 64 := Nat.lt_of_le_of_lt (Nat.le_mul_of_pos_right m (Nat.two_pow_pos b)) h
  apply Nat.le_antisymm
  · rw [bl_le h, Nat.pow_add]
    exact Nat.mul_lt_mul_of_pos_right ((bl_le hm).1 (Nat.le_refl _)) (Nat.two_pow_pos b)
  · have h1 := (bl_le h).1 (Nat.le_refl _)
    have h2 : b < Lib.bitLen (m * 2 ^ b) := by
      rcases Nat.lt_or_ge b (Lib.bitLen (m * 2 ^ b)) with h3 | h3
      · exact h3
      · have h4 : 2 ^ Lib.bitLen (m * 2 ^ b) ≤ 2 ^ b := Nat.pow_le_pow_right (by omega) h3
        have h5 : 1 * 2 ^ b ≤ m * 2 ^ b := Nat.mul_le_mul_right _ (by omega)
        omega
    have h3 : m < 2 ^ (Lib.bitLen (m * 2 ^ b) - b) := by
      have e : 2 ^ Lib.bitLen (m * 2 ^ b) = 2 ^ (Lib.bitLen (m * 2 ^ b) - b) * 2 ^ b := by rw [← Nat.pow_add]; congr 1; omega
      rw [e] at h1
      exact Nat.lt_of_mul_lt_mul_right h1
    have := (bl_le hm).2 h3
    omega

/-- The register that a number tells. -/
def plAt (b n : Int) : Int := wrap64 (n / 2 ^ (64 - b).toNat)
/-- Its rank. -/
def plRank (b n : Int) : Int := min (wrap64 (64 - (Lib.bitLen (IntKind.u64.wrap (n * 2 ^ b.toNat)).toNat : Int) + 1)) (65 - b)

def atN (b n : Nat) : Nat := n / 2 ^ (64 - b)
def rankN (b n : Nat) : Nat := 65 - b - Lib.bitLen (n % 2 ^ (64 - b))

theorem atN_lt {b n : Nat} (hb : b ≤ 8) (hn : n < 2 ^ 64) : atN b n < 2 ^ b := by
  unfold atN
  rw [Nat.div_lt_iff_lt_mul (Nat.two_pow_pos _), ← Nat.pow_add]
  rwa [show b + (64 - b) = 64 by omega]
theorem pow_small {b : Nat} (hb : b ≤ 8) : 2 ^ b ≤ 256 := Nat.pow_le_pow_right (n := 2) (by omega) hb
theorem plAt_eq {b n : Nat} (hb : b ≤ 8) (hn : n < 2 ^ 64) : plAt b n = (atN b n : Int) := by
  have h1 := atN_lt hb hn
  have h2 := pow_small hb
  have e : (n : Int) / 2 ^ ((64 : Int) - b).toNat = ((atN b n : Nat) : Int) := by
    unfold atN
    rw [show ((64 : Int) - b).toNat = 64 - b by omega]
    simp
  unfold plAt
  rw [e]
  unfold wrap64
  omega
theorem mod_lt' (b n : Nat) : n % 2 ^ (64 - b) < 2 ^ (64 - b) := Nat.mod_lt _ (Nat.two_pow_pos _)
theorem mod_lt64 (b n : Nat) : n % 2 ^ (64 - b) < 2 ^ 64 := Nat.lt_of_lt_of_le (mod_lt' b n) (Nat.pow_le_pow_right (by omega) (by omega))
theorem rankN_bd {b n : Nat} (hb : b ≤ 8) : 1 ≤ rankN b n ∧ rankN b n ≤ 65 - b := by
  have := (bl_le (mod_lt64 b n)).2 (mod_lt' b n)
  unfold rankN
  omega
theorem plRank_eq {b n : Nat} (hb : b ≤ 8) : plRank b n = (rankN b n : Int) := by
  have e : (IntKind.u64.wrap ((n : Int) * 2 ^ ((b : Int)).toNat)).toNat = (n % 2 ^ (64 - b)) * 2 ^ b := by
    rw [IntKind.wrap_u64]
    have e1 : ((n : Int) * 2 ^ ((b : Int)).toNat) = ((n * 2 ^ b : Nat) : Int) := by simp
    rw [e1]
    have e2 : (n * 2 ^ b) % 18446744073709551616 = (n % 2 ^ (64 - b)) * 2 ^ b := by
      have e3 : (18446744073709551616 : Nat) = 2 ^ (64 - b) * 2 ^ b := by rw [← Nat.pow_add, show 64 - b + b = 64 by omega]
      rw [e3, Nat.mul_mod_mul_right]
    omega
  have hl := (bl_le (mod_lt64 b n)).2 (mod_lt' b n)
  unfold plRank rankN
  rw [e]
  by_cases h0 : n % 2 ^ (64 - b) = 0
  · rw [h0, Nat.zero_mul, bl_zero]; unfold wrap64; omega
  · have hlt : (n % 2 ^ (64 - b)) * 2 ^ b < 2 ^ 64 := by
      have h1 : (n % 2 ^ (64 - b)) * 2 ^ b < 2 ^ (64 - b) * 2 ^ b := Nat.mul_lt_mul_of_pos_right (mod_lt' b n) (Nat.two_pow_pos _)
      rwa [← Nat.pow_add, show 64 - b + b = 64 by omega] at h1
    have hp := bl_pos h0 (mod_lt64 b n)
    rw [bl_mul h0 hlt]
    unfold wrap64
    omega
end Go.Proofs.YtngahohheleeeaaDoor
