/- The document's Place. -/
import Derived.Test.YtngahohheleeeaaM1
namespace Go.Proofs.Ytngahohheleeeaa
open Go.RowKit

theorem half_step (n j : Nat) : 2 * (n / 2 ^ (j + 1)) + n / 2 ^ j % 2 = n / 2 ^ j := by
  rw [Nat.pow_succ, ← Nat.div_div_eq_div_mul]
  omega
theorem digit_low {n p j : Nat} (h : n % 2 ^ p < 2 ^ (j + 1)) (hj : j < p) : n / 2 ^ j % 2 = n % 2 ^ p / 2 ^ j := by
  have e1 : n % 2 ^ p / 2 ^ j = n / 2 ^ j % 2 ^ (p - j) := by
    rw [show (2 : Nat) ^ p = 2 ^ j * 2 ^ (p - j) by rw [← Nat.pow_add]; congr 1; omega, Nat.mod_mul_right_div_self]
  have e2 : n % 2 ^ p / 2 ^ j < 2 := by
    rw [Nat.div_lt_iff_lt_mul (Nat.two_pow_pos _), Nat.mul_comm, ← Nat.pow_succ]; exact h
  have e3 : n / 2 ^ j % 2 ^ (p - j) % 2 = n / 2 ^ j % 2 := Nat.mod_mod_of_dvd _ ⟨2 ^ (p - j - 1), by rw [← Nat.pow_succ']; congr 1; omega⟩
  omega

/-- What the loop holds ahead of digit 'k - 1'. -/
def PlInv (b n k : Nat) : Prop := k ≤ 64 ∧ n % 2 ^ (64 - b) < 2 ^ k
theorem plInv_start {b n : Nat} : PlInv b n 64 := ⟨Nat.le_refl _, mod_lt64 b n⟩
theorem plInv_high {b n j : Nat} (h : PlInv b n (j + 1)) (hj : 64 - b ≤ j) : PlInv b n j :=
  ⟨by have := h.1; omega, Nat.lt_of_lt_of_le (mod_lt' b n) (Nat.pow_le_pow_right (by omega) hj)⟩
theorem plInv_low {b n j : Nat} (h : PlInv b n (j + 1)) (hj : j < 64 - b) (hd : n / 2 ^ j % 2 = 0) : PlInv b n j := by
  refine ⟨by have := h.1; omega, ?_⟩
  rw [digit_low h.2 hj] at hd
  rcases Nat.lt_or_ge (n % 2 ^ (64 - b)) (2 ^ j) with h1 | h1
  · exact h1
  · have := (Nat.le_div_iff_mul_le (Nat.two_pow_pos j)).2 (by simpa using h1 : 1 * 2 ^ j ≤ n % 2 ^ (64 - b))
    omega
theorem plInv_hit {b n j : Nat} (h : PlInv b n (j + 1)) (hj : j < 64 - b) (hd : n / 2 ^ j % 2 = 1) : rankN b n = 1 + (64 - b - (j + 1)) := by
  rw [digit_low h.2 hj] at hd
  have h1 : 1 * 2 ^ j ≤ n % 2 ^ (64 - b) := (Nat.le_div_iff_mul_le (Nat.two_pow_pos j)).1 (by omega)
  unfold rankN
  rw [bl_eq (mod_lt64 b n) (by simpa using h1) h.2]
  omega
theorem plInv_end {b n : Nat} (h : PlInv b n 0) (hb : b ≤ 8) : rankN b n = 1 + (64 - b) := by
  have h0 : n % 2 ^ (64 - b) = 0 := by have := h.2; simpa using this
  unfold rankN
  rw [h0, bl_zero]
  omega

theorem rplace_no (b n : Int) (w : World) (h : isBitsB b = false) :
    Calls Try.prog 16 #[.int .i64 b, .int .u64 n] w fun e w' => e = .returned (.tuple #[.int .i64 0, .int .i64 0]) ∧ Below w.heap.size w w' := by
  go_enter Try.func16, Try.ntmps16
  go_wp2_with (first | (go_at_call 27; (first | (with_reducible refine Calls.mono (Calls.gr (below_self (risBits_any _ _))) ?_) | (refine Calls.mono (Calls.gr0 (below_self (risBits_any _ _))) ?_)); rintro e w' ⟨rfl, g, rfl⟩; have hgl := g.le; (try simp only [World.size_alloc] at hgl); (try simp only [World.size_setCell] at hgl)))
  go_ret2
  exact ⟨rfl, (by repeat (first | exact Below.refl _ _ | assumption | (refine Below.setCell ?_ (by (first | omega | (simp; done) | (simp; omega) | (simp at *; omega))) _) | (refine Below.alloc ?_ (by (first | omega | (simp; done) | (simp; omega) | (simp at *; omega))) _) | (refine Below.drew ?_) | (refine Gr.into _ ?_ (by (first | omega | (simp; done) | (simp; omega) | (simp at *; omega))))))⟩
theorem rplace_yes (b n : Nat) (w : World) (h : isBitsB b = true) (hn : n < 2 ^ 64) :
    Calls Try.prog 16 #[.int .i64 b, .int .u64 n] w fun e w' => e = .returned (.tuple #[.int .i64 (atN b n), .int .i64 (rankN b n)]) ∧ Below w.heap.size w w' := by
  obtain ⟨h1, h2⟩ := isBits_bd h
  go_enter Try.func16, Try.ntmps16
  go_wp2_with (first | (go_at_call 27; (first | (with_reducible refine Calls.mono (Calls.gr (below_self (risBits_any _ _))) ?_) | (refine Calls.mono (Calls.gr0 (below_self (risBits_any _ _))) ?_)); rintro e w' ⟨rfl, g, rfl⟩; have hgl := g.le; (try simp only [World.size_alloc] at hgl); (try simp only [World.size_setCell] at hgl)))
  have hb : b ≤ 8 := by omega
  go_loop [6, 7, 8] (fun at_ rank i => ∃ k : Nat, PlInv b n k ∧ i = .int .i64 ((k : Int) - 1) ∧ at_ = .int .i64 (n / 2 ^ max k (64 - b) : Nat) ∧ rank = .int .i64 (1 + (64 - b - k) : Nat))
    (fun _ _ i => (intOf i + 1).toNat)
  case atStart => exact ⟨64, plInv_start, rfl, by rw [show max 64 (64 - b) = 64 by omega, Nat.div_eq_of_lt hn]; rfl, by rw [show 1 + (64 - b - 64) = 1 by omega]; rfl⟩
  case round =>
    obtain ⟨k, hI, rfl, rfl, rfl⟩ := hrel
    have hk := hI.1
    rcases k with _ | j
    · have he := plInv_end hI hb
      rw [show max 0 (64 - b) = 64 - b by omega, ← show atN b n = n / 2 ^ (64 - b) from rfl, show 1 + (64 - b - 0) = rankN b n by rw [he]; omega]
      go_wp2
      go_ret2
      exact ⟨rfl, (by repeat (first | exact Below.refl _ _ | assumption | (refine Below.setCell ?_ (by (first | omega | (simp; done) | (simp; omega) | (simp at *; omega))) _) | (refine Below.alloc ?_ (by (first | omega | (simp; done) | (simp; omega) | (simp at *; omega))) _) | (refine Below.drew ?_) | (refine Gr.into _ ?_ (by (first | omega | (simp; done) | (simp; omega) | (simp at *; omega))))))⟩
    · rw [show ((j + 1 : Nat) : Int) - 1 = (j : Int) by omega]
      have hA : n / 2 ^ max (j + 1) (64 - b) ≤ 256 := by
        have h3 : n / 2 ^ max (j + 1) (64 - b) ≤ n / 2 ^ (64 - b) := Nat.div_le_div_left (Nat.pow_le_pow_right (by omega) (by omega)) (Nat.two_pow_pos _)
        have h4 : n / 2 ^ (64 - b) < 2 ^ b := atN_lt hb hn
        have := pow_small hb
        omega
      have hd : ∀ D, n / 2 ^ j % 2 = D → wrap64 (((n : Int) / 2 ^ j).tmod 2) = (D : Nat) := fun D hD => by
        have : ((n : Int) / 2 ^ j).tmod 2 = (D : Nat) := by rw [Int.tmod_eq_emod_of_nonneg (Int.ediv_nonneg (by omega) (Int.le_of_lt (Int.pow_pos (by omega)))), ← hD]; simp
        rw [this]
        unfold wrap64
        omega
      by_cases hj : 64 - b ≤ j
      · have hs := half_step n j
        have hx : max (j + 1) (64 - b) = j + 1 := by omega
        have hy : max j (64 - b) = j := by omega
        rw [hx] at hA
        obtain ⟨D, hD⟩ : ∃ D, D = n / 2 ^ j % 2 := ⟨_, rfl⟩
        have hD2 : D < 2 := by omega
        have hw := hd D hD.symm
        rw [← hD] at hs
        rw [hx, show 1 + (64 - b - (j + 1)) = 1 by omega]
        generalize n / 2 ^ (j + 1) = A at *
        go_wp2
        go_round
        case rel => exact ⟨j, plInv_high hI hj, by go_num, by rw [hy, ← hs, hD]; simp, by rw [show 1 + (64 - b - j) = 1 by omega]⟩
        case measure => simp [intOf]
      · have hx : max (j + 1) (64 - b) = 64 - b := by omega
        have hy : max j (64 - b) = 64 - b := by omega
        rw [hx] at hA
        rw [hx]
        rcases Nat.mod_two_eq_zero_or_one (n / 2 ^ j) with hD | hD
        · have hw := hd 0 hD
          obtain ⟨A, hAA⟩ : ∃ A, A = n / 2 ^ (64 - b) := ⟨_, rfl⟩
          rw [← hAA] at hA ⊢
          obtain ⟨R, hR⟩ : ∃ R, R = 1 + (64 - b - (j + 1)) := ⟨_, rfl⟩
          have hR2 : 1 + (64 - b - j) = R + 1 := by omega
          have hR3 : R ≤ 64 := by omega
          rw [← hR]
          clear hR
          go_wp2
          go_round
          case rel => exact ⟨j, plInv_low hI (by omega) hD, by go_num, by rw [hy, hAA], by rw [hR2]; go_num⟩
          case measure => simp [intOf]
        · have hw := hd 1 hD
          have hr := plInv_hit hI (by omega) hD
          rw [← hr, ← show atN b n = n / 2 ^ (64 - b) from rfl]
          go_wp2
          go_ret2
          exact ⟨rfl, (by repeat (first | exact Below.refl _ _ | assumption | (refine Below.setCell ?_ (by (first | omega | (simp; done) | (simp; omega) | (simp at *; omega))) _) | (refine Below.alloc ?_ (by (first | omega | (simp; done) | (simp; omega) | (simp at *; omega))) _) | (refine Below.drew ?_) | (refine Gr.into _ ?_ (by (first | omega | (simp; done) | (simp; omega) | (simp at *; omega))))))⟩
end Go.Proofs.Ytngahohheleeeaa
