/- Plain laws on lowered registers. -/
import Derived.Test.YtngahohheleeeaaDoorHR
import Derived.Test.YtngahohheleeeaaDoorA7
namespace Go.Proofs.YtngahohheleeeaaDoor
open Go.RowKit

theorem atN_lower {b z : Nat} (h1 : 1 ≤ b) (h2 : b ≤ 8) : atN (b - 1) z = atN b z / 2 := by
  unfold atN
  rw [Nat.div_div_eq_div_mul, ← Nat.pow_succ]
  congr 2
  omega
theorem mod_split (z k : Nat) : z % 2 ^ (k + 1) = z / 2 ^ k % 2 * 2 ^ k + z % 2 ^ k := by
  have h1 := Nat.mod_pow_succ (b := 2) (x := z) (k := k)
  rw [h1, Nat.mul_comm]
  omega
theorem rankN_lower {b z : Nat} (h1 : 1 ≤ b) (h2 : b ≤ 8) : rankN (b - 1) z = if atN b z % 2 = 0 then rankN b z + 1 else 1 := by
  have e : 64 - (b - 1) = (64 - b) + 1 := by omega
  have hb := (bl_le (mod_lt64 b z)).2 (mod_lt' b z)
  unfold rankN atN
  rw [e, mod_split]
  by_cases h : z / 2 ^ (64 - b) % 2 = 0
  · rw [if_pos h, h, Nat.zero_mul, Nat.zero_add]
    omega
  · have h3 : z / 2 ^ (64 - b) % 2 = 1 := by omega
    rw [if_neg h, h3, Nat.one_mul]
    have hm := mod_lt' b z
    have hp : 2 ^ (64 - b + 1) = 2 ^ (64 - b) + 2 ^ (64 - b) := by rw [Nat.pow_succ]; omega
    have hlt : 2 ^ (64 - b) + z % 2 ^ (64 - b) < 2 ^ 64 := by
      have : 2 ^ (64 - b + 1) ≤ 2 ^ 64 := Nat.pow_le_pow_right (by omega) (by omega)
      omega
    rw [bl_eq hlt (k := 64 - b) (by omega) (by omega)]
    omega
def lowN (a b : Nat) : Nat := if 0 < a then a + 1 else if 0 < b then 1 else 0
theorem lowN_le {a b m : Nat} : lowN a b ≤ m ↔ (0 < a → a + 1 ≤ m) ∧ (0 < b → 1 ≤ m) := by
  unfold lowN
  by_cases h1 : 0 < a
  · rw [if_pos h1]; constructor
    · intro h; exact ⟨fun _ => h, fun _ => by omega⟩
    · intro h; exact h.1 h1
  · rw [if_neg h1]
    by_cases h2 : 0 < b
    · rw [if_pos h2]; constructor
      · intro h; exact ⟨fun h' => absurd h' h1, fun _ => h⟩
      · intro h; exact h.2 h2
    · rw [if_neg h2]; exact ⟨fun _ => ⟨fun h' => absurd h' h1, fun h' => absurd h' h2⟩, fun _ => Nat.zero_le _⟩
theorem val_lower {l : List UInt8} {i : Nat} (hi : i < l.length / 2) (h : ∀ c ∈ l, c.toNat ≤ 63) : val (lowerL l) i = lowN (val l (2 * i)) (val l (2 * i + 1)) := by
  have e : (lowerL l).getD i 0 = low8 (l.getD (2 * i) 0) (l.getD (2 * i + 1) 0) := by
    have hl : i < (lowerL l).length := by rw [lowerL_length]; exact hi
    rw [List.getD_eq_getElem?_getD, List.getElem?_eq_getElem hl]
    simp [lowerL]
  have hm : (l.getD (2 * i) 0).toNat ≤ 63 := by
    have h2 : 2 * i < l.length := by omega
    rw [List.getD_eq_getElem?_getD, List.getElem?_eq_getElem h2]
    exact h _ (List.getElem_mem h2)
  unfold val
  rw [e]
  have h2 := low8_eq (l.getD (2 * i) 0) (l.getD (2 * i + 1) 0) hm
  unfold lowB at h2
  unfold lowN
  by_cases h3 : 0 < (l.getD (2 * i) 0).toNat
  · rw [if_pos (by omega)] at h2; rw [if_pos h3]; omega
  · rw [if_neg (by omega)] at h2; rw [if_neg h3]
    by_cases h4 : 0 < (l.getD (2 * i + 1) 0).toNat
    · rw [if_pos h4]; omega
    · rw [if_neg h4]; omega
theorem right_small {b : Nat} {l : List UInt8} (h : rightB b l = true) : ∀ c ∈ l, c.toNat ≤ 63 := fun c hc => by
  have := (rightB_iff b l).1 h
  have h2 := this.2.2.2 c hc
  omega
theorem pos_regs {b : Nat} (hb : b ≤ 8) (zs : List Nat) {i : Nat} (hi : i < 2 ^ b) (h : 0 < val (regsOf b zs) i) : ∃ z ∈ zs, atN b z = i := by
  rcases Classical.em (∃ z ∈ zs, atN b z = i) with h1 | h1
  · exact h1
  · have := (val_regsOf hb zs hi (m := 0)).2 fun z hz he => absurd ⟨z, hz, he⟩ h1
    omega
theorem lower_regsOf {b : Nat} (h4 : 4 ≤ b) (h8 : b ≤ 8) (zs : List Nat) : lowerL (regsOf b zs) = regsOf (b - 1) zs := by
  have hp : 2 ^ b = 2 * 2 ^ (b - 1) := by rw [← Nat.pow_succ']; congr 1; omega
  have hr : rightB b (regsOf b zs) = true := regsOf_right (by simp [isBitsB]; omega) zs
  refine val_ext (by rw [lowerL_length, regsOf_length, regsOf_length]; omega) fun i hi => nat_ext fun m => ?_
  rw [lowerL_length, regsOf_length] at hi
  have hi1 : i < 2 ^ (b - 1) := by omega
  rw [val_lower (by rw [regsOf_length]; exact hi) (right_small hr), lowN_le, val_regsOf (by omega) zs hi1]
  have k0 := fun m => val_regsOf h8 zs (i := 2 * i) (by omega) (m := m)
  have k1 := fun m => val_regsOf h8 zs (i := 2 * i + 1) (by omega) (m := m)
  constructor
  · rintro ⟨g0, g1⟩ z hz he
    rw [rankN_lower (by omega) h8]
    rw [atN_lower (by omega) h8] at he
    by_cases hev : atN b z % 2 = 0
    · rw [if_pos hev]
      have hz0 := (k0 _).1 (Nat.le_refl _) z hz (by omega)
      have := (rankN_bd (b := b) (n := z) h8).1
      have := g0 (by omega)
      omega
    · rw [if_neg hev]
      have hz1 := (k1 _).1 (Nat.le_refl _) z hz (by omega)
      have := (rankN_bd (b := b) (n := z) h8).1
      exact g1 (by omega)
  · intro g
    constructor
    · intro h0
      obtain ⟨z, hz, he⟩ := pos_regs h8 zs (by omega) h0
      have q : ∀ y ∈ zs, atN b y = 2 * i → rankN b y + 1 ≤ m := fun y hy hye => by
        have := g y hy (by rw [atN_lower (by omega) h8]; omega)
        rw [rankN_lower (by omega) h8, if_pos (by omega)] at this
        exact this
      have h1 := q z hz he
      have := (k0 (m - 1)).2 fun y hy hye => by have := q y hy hye; omega
      omega
    · intro h0
      obtain ⟨z, hz, he⟩ := pos_regs h8 zs (by omega) h0
      have := g z hz (by rw [atN_lower (by omega) h8]; omega)
      rw [rankN_lower (by omega) h8, if_neg (by omega)] at this
      exact this
theorem lower_right {b : Nat} {l : List UInt8} (h : rightB b l = true) (h4 : 4 ≤ b) : rightB (b - 1 : Nat) (lowerL l) = true := by
  have hs := right_small h
  obtain ⟨h1, h2, h3, h5⟩ := (rightB_iff b l).1 h
  have hp : 2 ^ b = 2 * 2 ^ (b - 1) := by rw [← Nat.pow_succ']; congr 1; omega
  refine (rightB_iff _ _).2 ⟨by omega, by omega, by rw [lowerL_length, h3]; omega, fun c hc => ?_⟩
  obtain ⟨i, hi, rfl⟩ := List.mem_iff_getElem.1 hc
  have hi2 : i < l.length / 2 := by rwa [lowerL_length] at hi
  have hv := val_lower hi2 hs
  have e : val (lowerL l) i = (lowerL l)[i].toNat := by unfold val; rw [List.getD_eq_getElem?_getD, List.getElem?_eq_getElem hi]; rfl
  have hb : val l (2 * i) ≤ 65 - b := by
    have h6 : 2 * i < l.length := by omega
    unfold val; rw [List.getD_eq_getElem?_getD, List.getElem?_eq_getElem h6]; exact h5 _ (List.getElem_mem h6)
  rw [← e, hv]
  unfold lowN
  by_cases h7 : 0 < val l (2 * i)
  · rw [if_pos h7]; omega
  · rw [if_neg h7]
    by_cases h8 : 0 < val l (2 * i + 1)
    · rw [if_pos h8]; omega
    · rw [if_neg h8]; omega
end Go.Proofs.YtngahohheleeeaaDoor
