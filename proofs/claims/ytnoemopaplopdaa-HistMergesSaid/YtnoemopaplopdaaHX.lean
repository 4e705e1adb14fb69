/- Plain laws on buckets and their bounds. -/
import Derived.Test.YtnoemopaplopdaaHB
namespace Go.Proofs.Ytnoemopaplopdaa
open Go.RowKit

theorem top_eq {v k : Nat} (hv : v < 2 ^ 64) (h1 : 2 ^ k ≤ v) (h2 : v < 2 ^ (k + 1)) : top v = k := by
  unfold top
  rw [bl_eq hv h1 h2]
  rfl
theorem lead_mod {f v : Nat} (h0 : v ≠ 0) (hv : v < 2 ^ 64) : lead f v % 2 ^ f = lead f v - 2 ^ f := by
  have h := lead_bd (f := f) h0 hv
  rw [Nat.pow_succ] at h
  rw [Nat.mod_eq_sub_mod h.1, Nat.mod_eq_of_lt (by omega)]
theorem bucketN_pos {f v : Nat} (h0 : v ≠ 0) (hv : v < 2 ^ 64) : bucketN f v = 1 + top v * 2 ^ f + (lead f v - 2 ^ f) := by
  unfold bucketN
  rw [if_neg h0, lead_mod h0 hv]
theorem bucketN_mono {f u v : Nat} (h : u ≤ v) (hv : v < 2 ^ 64) : bucketN f u ≤ bucketN f v := by
  by_cases h0 : u = 0
  · subst h0; unfold bucketN; simp
  · have hu : u < 2 ^ 64 := by omega
    have hv0 : v ≠ 0 := by omega
    rw [bucketN_pos h0 hu, bucketN_pos hv0 hv]
    obtain ⟨-, a1, a2, -⟩ := top_bd h0 hu
    obtain ⟨-, b1, b2, -⟩ := top_bd hv0 hv
    have l1 := lead_bd (f := f) h0 hu
    have l2 := lead_bd (f := f) hv0 hv
    rw [Nat.pow_succ] at l1 l2
    rcases Nat.lt_trichotomy (top u) (top v) with ht | ht | ht
    · have : (top u + 1) * 2 ^ f ≤ top v * 2 ^ f := Nat.mul_le_mul_right _ ht
      rw [Nat.add_mul, Nat.one_mul] at this
      omega
    · have : lead f u ≤ lead f v := by unfold lead; rw [ht]; exact Nat.div_le_div_right (Nat.mul_le_mul_right _ h)
      rw [ht]; omega
    · have : 2 ^ (top v + 1) ≤ 2 ^ top u := Nat.pow_le_pow_right (by omega) ht
      omega
theorem bucketN_lt {f u v : Nat} (h : u < v) (hv : v < 2 ^ 64) (hl : u ≠ 0 → top u = top v → lead f u < lead f v) : bucketN f u < bucketN f v := by
  have hv0 : v ≠ 0 := by omega
  rw [bucketN_pos hv0 hv]
  by_cases h0 : u = 0
  · subst h0; unfold bucketN; simp; omega
  · have hu : u < 2 ^ 64 := by omega
    rw [bucketN_pos h0 hu]
    obtain ⟨-, a1, a2, -⟩ := top_bd h0 hu
    obtain ⟨-, b1, b2, -⟩ := top_bd hv0 hv
    have l1 := lead_bd (f := f) h0 hu
    have l2 := lead_bd (f := f) hv0 hv
    rw [Nat.pow_succ] at l1 l2
    rcases Nat.lt_trichotomy (top u) (top v) with ht | ht | ht
    · have : (top u + 1) * 2 ^ f ≤ top v * 2 ^ f := Nat.mul_le_mul_right _ ht
      rw [Nat.add_mul, Nat.one_mul] at this
      omega
    · have := hl h0 ht
      rw [ht]; omega
    · have : 2 ^ (top v + 1) ≤ 2 ^ top u := Nat.pow_le_pow_right (by omega) ht
      omega
theorem lead_low {f v : Nat} (h : top v ≤ f) : lead f v = v * 2 ^ (f - top v) := by
  unfold lead
  rw [show (2 : Nat) ^ f = 2 ^ (f - top v) * 2 ^ top v by rw [← Nat.pow_add]; congr 1; omega, ← Nat.mul_assoc, Nat.mul_div_cancel _ (Nat.two_pow_pos _)]
theorem lead_high {f v : Nat} (h : f ≤ top v) : lead f v = v / 2 ^ (top v - f) := by
  unfold lead
  rw [show (2 : Nat) ^ top v = 2 ^ (top v - f) * 2 ^ f by rw [← Nat.pow_add]; congr 1; omega, Nat.mul_div_mul_right _ _ (Nat.two_pow_pos f)]
/-- What the bounds of a value's bucket are. -/
theorem bounds_bucket {f v : Nat} (hv : v < 2 ^ 64) (hf : f ≤ 3) : ∃ lo hi, boundsN f (bucketN f v) = some (lo, hi) ∧ lo ≤ v ∧ v ≤ hi ∧ hi < 2 ^ 64 ∧ bucketN f lo = bucketN f v ∧ bucketN f hi = bucketN f v ∧ (lo ≠ 0 → bucketN f (lo - 1) < bucketN f v) := by
  by_cases h0 : v = 0
  · subst h0
    exact ⟨0, 0, by simp [bucketN, boundsN], Nat.le_refl _, Nat.le_refl _, by omega, rfl, rfl, fun h => absurd rfl h⟩
  · have hb := bucketN_pos (f := f) h0 hv
    obtain ⟨-, a1, a2, a3⟩ := top_bd h0 hv
    have l1 := lead_bd (f := f) h0 hv
    rw [Nat.pow_succ] at l1
    have hp := Nat.two_pow_pos f
    have hq : (bucketN f v - 1) / 2 ^ f = top v := by
      rw [hb, show 1 + top v * 2 ^ f + (lead f v - 2 ^ f) - 1 = (lead f v - 2 ^ f) + top v * 2 ^ f by omega, Nat.add_mul_div_right _ _ hp, Nat.div_eq_of_lt (by omega), Nat.zero_add]
    have hr : 2 ^ f + (bucketN f v - 1) % 2 ^ f = lead f v := by
      rw [hb, show 1 + top v * 2 ^ f + (lead f v - 2 ^ f) - 1 = (lead f v - 2 ^ f) + top v * 2 ^ f by omega, Nat.add_mul_mod_self_right, Nat.mod_eq_of_lt (by omega)]
      omega
    have hne : bucketN f v ≠ 0 := by omega
    have hbn : boundsN f (bucketN f v) = if top v < f then (if bucketN f (lead f v / 2 ^ (f - top v)) = bucketN f v then some (lead f v / 2 ^ (f - top v), lead f v / 2 ^ (f - top v)) else none) else some (lead f v * 2 ^ (top v - f), lead f v * 2 ^ (top v - f) + (2 ^ (top v - f) - 1)) := by
      unfold boundsN
      rw [if_neg hne, hq, hr]
    rw [hbn]
    by_cases hk : top v < f
    · have hlow : lead f v / 2 ^ (f - top v) = v := by
        unfold lead
        rw [show (2 : Nat) ^ f = 2 ^ (f - top v) * 2 ^ top v by rw [← Nat.pow_add]; congr 1; omega, ← Nat.mul_assoc, Nat.mul_div_cancel _ (Nat.two_pow_pos _), Nat.mul_div_cancel _ (Nat.two_pow_pos _)]
      rw [if_pos hk, hlow, if_pos rfl]
      refine ⟨v, v, rfl, Nat.le_refl _, Nat.le_refl _, hv, rfl, rfl, fun _ => bucketN_lt (by omega) hv fun _ ht => ?_⟩
      rw [lead_low (by omega), lead_low (by omega), ht]
      exact Nat.mul_lt_mul_of_pos_right (by omega) (Nat.two_pow_pos _)
    · rw [if_neg hk]
      have hl := lead_high (f := f) (v := v) (by omega)
      obtain ⟨t, ht⟩ : ∃ t, t = top v - f := ⟨_, rfl⟩
      rw [← ht] at hl ⊢
      have hpt := Nat.two_pow_pos t
      have hlo : lead f v * 2 ^ t ≤ v := by rw [hl]; exact Nat.div_mul_le_self _ _
      have hhi : v < lead f v * 2 ^ t + 2 ^ t := by rw [hl]; exact Nat.lt_div_mul_add hpt
      have h2k : 2 ^ f * 2 ^ t = 2 ^ top v := by rw [← Nat.pow_add]; congr 1; omega
      have hge : 2 ^ top v ≤ lead f v * 2 ^ t := by rw [← h2k]; exact Nat.mul_le_mul_right _ l1.1
      have hlt : lead f v * 2 ^ t + 2 ^ t ≤ 2 ^ (top v + 1) := by
        have : (lead f v + 1) * 2 ^ t ≤ 2 ^ f * 2 * 2 ^ t := Nat.mul_le_mul_right _ (by omega)
        rw [Nat.add_mul, Nat.one_mul, Nat.mul_right_comm, h2k, ← Nat.pow_succ] at this
        exact this
      have h64 : 2 ^ (top v + 1) ≤ 2 ^ 64 := Nat.pow_le_pow_right (by omega) (by omega)
      have same : ∀ x, lead f v * 2 ^ t ≤ x → x < lead f v * 2 ^ t + 2 ^ t → bucketN f x = bucketN f v := fun x hx1 hx2 => by
        have hx : x < 2 ^ 64 := by omega
        have hp1 := Nat.two_pow_pos (top v)
        have hx0 : x ≠ 0 := by omega
        have htx : top x = top v := top_eq hx (by omega) (by omega)
        have hlx : lead f x = lead f v := by
          rw [lead_high (by omega), htx, ← ht]
          refine Nat.div_eq_of_lt_le hx1 ?_
          rw [Nat.add_mul, Nat.one_mul]; exact hx2
        rw [bucketN_pos hx0 hx, hb, htx, hlx]
      refine ⟨_, _, rfl, hlo, by omega, by omega, same _ (Nat.le_refl _) (by omega), same _ (by omega) (by omega), fun hne0 => ?_⟩
      rw [← same (lead f v * 2 ^ t) (Nat.le_refl _) (by omega)]
      refine bucketN_lt (by omega) (by omega) fun hu0 hut => ?_
      have htl : top (lead f v * 2 ^ t) = top v := top_eq (by omega) hge (by omega)
      rw [lead_high (f := f) (v := lead f v * 2 ^ t - 1) (by omega), lead_high (f := f) (v := lead f v * 2 ^ t) (by omega), hut, htl, ← ht, Nat.mul_div_cancel _ hpt]
      rw [Nat.div_lt_iff_lt_mul hpt]
      omega
end Go.Proofs.Ytnoemopaplopdaa
