/- The references' digits, Bucket. -/
import Derived.Test.YtnoemopaplopdaaJ3
namespace Go.Proofs.Ytnoemopaplopdaa
open Go.RowKit Go.Maps

theorem bl_half {x : Nat} (h0 : x ≠ 0) (h : x < 2 ^ 64) : Lib.bitLen x = Lib.bitLen (x / 2) + 1 := by
  have hh : x / 2 < 2 ^ 64 := by omega
  apply Nat.le_antisymm
  · rw [bl_le h, Nat.pow_succ]
    have := (bl_le hh).1 (Nat.le_refl _)
    omega
  · have h1 := bl_pos h0 h
    have h2 := (bl_le h).1 (Nat.le_refl _)
    have e : 2 ^ Lib.bitLen x = 2 ^ (Lib.bitLen x - 1) * 2 := by rw [← Nat.pow_succ]; congr 1; omega
    have h3 : Lib.bitLen (x / 2) ≤ Lib.bitLen x - 1 := by rw [bl_le hh]; omega
    omega
theorem digits_any (v : Nat) (w : World) (hv : v < 18446744073709551616) :
    Calls Try.prog 43 #[.int .u64 v] w fun e w' => e = .returned (.int .i64 (Lib.bitLen v : Nat)) ∧ w = w' := by
  have hb := (bl_le (x := v) (k := 64) (by omega)).2 (by omega)
  go_enter Try.func43, Try.ntmps43
  go_wp2
  go_loopw [0, 3] (fun i n wr => ∃ x m : Nat, i = .int .u64 x ∧ n = .int .i64 m ∧ x ≤ v ∧ m + Lib.bitLen x = Lib.bitLen v ∧ w = wr)
    (fun i _ _ => (intOf i).toNat)
  case atStart => exact ⟨v, 0, rfl, rfl, Nat.le_refl _, by omega, rfl⟩
  case round =>
    obtain ⟨x, m, rfl, rfl, hx, hm, rfl⟩ := hrel
    by_cases h0 : x = 0
    · subst h0
      have hm2 : m = Lib.bitLen v := by rw [bl_zero] at hm; omega
      subst hm2
      go_wp2
      go_ret
      exact ⟨rfl, rfl⟩
    · have hpos : (0 : Int) < x := by omega
      have hh := bl_half h0 (by omega)
      go_wp2
      go_roundw
      case rel => exact ⟨x / 2, m + 1, by first | rfl | (congr 1; omega), by go_num, by omega, by omega, by first | rfl | trivial⟩
      case measure => simp [intOf]; omega
theorem lead_zero {v : Nat} (h0 : v ≠ 0) (hv : v < 2 ^ 64) : lead 0 v = 1 := by
  have := lead_bd (f := 0) h0 hv
  omega
theorem lead_step {k v : Nat} : lead (k + 1) v = 2 * lead k v + (if k + 1 ≤ top v then v / 2 ^ (top v - (k + 1)) % 2 else 0) := by
  split
  · rename_i h
    rw [lead_high h, lead_high (by omega : k ≤ top v)]
    have e : 2 ^ (top v - k) = 2 ^ (top v - (k + 1)) * 2 := by rw [← Nat.pow_succ]; congr 1; omega
    rw [e, ← Nat.div_div_eq_div_mul]
    omega
  · rename_i h
    rw [lead_low (by omega : top v ≤ k + 1), lead_low (by omega : top v ≤ k), show k + 1 - top v = (k - top v) + 1 by omega, Nat.pow_succ]
    rw [← Nat.mul_assoc, Nat.mul_comm _ 2, Nat.add_zero]
set_option maxRecDepth 100000 in
theorem rbucket_no (f : Int) (v : Nat) (w : World) (h : fineB f = false ∨ v = 0) :
    Calls Try.prog 18 #[.int .i64 f, .int .u64 v] w fun e w' => e = .returned (.int .i64 0) ∧ Below w.heap.size w w' := by
  rcases Classical.em (f < 0) with h1 | h1
  · go_enter Try.func18, Try.ntmps18
    go_wp2
    go_ret
    exact ⟨rfl, (by repeat (first | exact Below.refl _ _ | assumption | (refine Below.setCell ?_ (by (first | omega | (simp; done) | (simp; omega) | (simp at *; omega))) _) | (refine Below.alloc ?_ (by (first | omega | (simp; done) | (simp; omega) | (simp at *; omega))) _) | (refine Below.drew ?_) | (refine Gr.into _ ?_ (by (first | omega | (simp; done) | (simp; omega) | (simp at *; omega))))))⟩
  · rcases Classical.em (3 < f) with h2 | h2
    · go_enter Try.func18, Try.ntmps18
      go_wp2
      go_ret
      exact ⟨rfl, (by repeat (first | exact Below.refl _ _ | assumption | (refine Below.setCell ?_ (by (first | omega | (simp; done) | (simp; omega) | (simp at *; omega))) _) | (refine Below.alloc ?_ (by (first | omega | (simp; done) | (simp; omega) | (simp at *; omega))) _) | (refine Below.drew ?_) | (refine Gr.into _ ?_ (by (first | omega | (simp; done) | (simp; omega) | (simp at *; omega))))))⟩
    · have hv : v = 0 := h.resolve_left (by simp [fineB]; omega)
      subst hv
      go_enter Try.func18, Try.ntmps18
      go_wp2
      go_ret
      exact ⟨rfl, (by repeat (first | exact Below.refl _ _ | assumption | (refine Below.setCell ?_ (by (first | omega | (simp; done) | (simp; omega) | (simp at *; omega))) _) | (refine Below.alloc ?_ (by (first | omega | (simp; done) | (simp; omega) | (simp at *; omega))) _) | (refine Below.drew ?_) | (refine Gr.into _ ?_ (by (first | omega | (simp; done) | (simp; omega) | (simp at *; omega))))))⟩
theorem tmod_bit (v s : Nat) : ((v : Int) / 2 ^ s).tmod 2 = ((v / 2 ^ s % 2 : Nat) : Int) := by
  have e : (v : Int) / 2 ^ s = ((v / 2 ^ s : Nat) : Int) := by simp
  rw [e]
  generalize v / 2 ^ s = d
  rw [Int.tmod_eq_emod_of_nonneg (by omega)]
  omega
theorem val_step {l0 l1 s v k : Nat} (hp : 2 ^ k ≤ l0) (hst : l1 = 2 * l0 + v / 2 ^ s % 2) : 2 * ((l0 - 2 ^ k : Nat) : Int) + (v : Int) / 2 ^ s % 2 = ((l1 - 2 ^ (k + 1) : Nat) : Int) := by
  have e : (v : Int) / 2 ^ s = ((v / 2 ^ s : Nat) : Int) := by simp
  rw [e, Nat.pow_succ]
  generalize v / 2 ^ s = d at *
  generalize 2 ^ k = p at *
  omega
theorem val_small {l0 s v k : Nat} (hlk : l0 < 2 ^ (k + 1)) (h8 : 2 ^ (k + 1) ≤ 8) : wrap64 (2 * ((l0 - 2 ^ k : Nat) : Int) + (v : Int) / 2 ^ s % 2) = 2 * ((l0 - 2 ^ k : Nat) : Int) + (v : Int) / 2 ^ s % 2 := by
  have e : (v : Int) / 2 ^ s = ((v / 2 ^ s : Nat) : Int) := by simp
  rw [e]
  generalize v / 2 ^ s = d at *
  unfold wrap64; omega
theorem val_end {k t l0 : Nat} (h : k ≤ 3) (ht : t ≤ 63) (hp : 2 ^ k ≤ l0) (hl : l0 < 2 ^ (k + 1)) : wrap64 (wrap64 (1 + wrap64 ((t : Int) * 2 ^ k)) + ((l0 - 2 ^ k : Nat) : Int)) = ((1 + t * 2 ^ k + (l0 - 2 ^ k) : Nat) : Int) := by
  rw [Nat.pow_succ] at hl
  rcases four h with rfl | rfl | rfl | rfl
  all_goals
    unfold wrap64; omega
set_option maxRecDepth 100000 in
set_option maxHeartbeats 1000000 in
theorem rbucket_yes (f v : Nat) (w : World) (h : f ≤ 3) (h0 : v ≠ 0) (hv : v < 18446744073709551616) :
    Calls Try.prog 18 #[.int .i64 f, .int .u64 v] w fun e w' => e = .returned (.int .i64 (bucketN f v : Nat)) ∧ Below w.heap.size w w' := by
  have hfi : (f : Int) ≤ 3 := by omega
  have hv0 : ((v : Int) == 0) = false := by simp; omega
  obtain ⟨hb, -, -, ht63⟩ := top_bd h0 (by omega)
  have hdg : ∀ W, Calls Try.prog 43 #[.int .u64 v] W fun e w' => e = .returned (.int .i64 (top v + 1 : Nat)) ∧ Below W.heap.size W w' := fun W => by
    have := below_self (digits_any v W hv)
    rwa [hb] at this
  have hbk := bucketN_pos (f := f) h0 (by omega)
  have hz := lead_zero h0 (by omega)
  have hstep : ∀ k, lead (k + 1) v = 2 * lead k v + (if k + 1 ≤ top v then v / 2 ^ (top v - (k + 1)) % 2 else 0) := fun k => lead_step
  have hbd : ∀ k, 2 ^ k ≤ lead k v := fun k => (lead_bd (f := k) h0 (by omega)).1
  have hld : lead f v < 2 ^ (f + 1) := (lead_bd (f := f) h0 (by omega)).2
  generalize top v = t at *
  have HB := Lib.hid hbk
  clear hbk
  go_enter Try.func18, Try.ntmps18
  go_wp2_with fail
  with_reducible refine Calls.mono (Calls.gr0 (hdg _)) ?_
  rintro e w' ⟨rfl, g, rfl⟩
  have hgl := g.le
  try simp only [World.size_alloc] at hgl
  try simp only [World.size_setCell] at hgl
  go_wp2_with fail
  refine wp_named (fun V hV => ?_)
  have hBV : Below w.heap.size w V := by rw [hV]; exact (by repeat (first | exact Below.refl _ _ | assumption | (refine Below.setCell ?_ (by (first | omega | (simp; done) | (simp; omega) | (simp at *; omega))) _) | (refine Below.alloc ?_ (by (first | omega | (simp; done) | (simp; omega) | (simp at *; omega))) _) | (refine Below.drew ?_) | (refine Gr.into _ ?_ (by (first | omega | (simp; done) | (simp; omega) | (simp at *; omega))))))
  clear hV
  clear hgl g
  have hVs := hBV.size
  go_loopw [6, 7] (fun b i wr => ∃ k : Nat, k ≤ f ∧ i = .int .i64 (k + 1 : Nat) ∧ b = .int .i64 (lead k v - 2 ^ k : Nat) ∧ V = wr)
    (fun _ i _ => f + 1 - (intOf i).toNat)
  case atStart => exact ⟨0, by omega, rfl, by rw [hz]; rfl, rfl⟩
  case round =>
    obtain ⟨k, hk, rfl, rfl, rfl⟩ := hrel
    have hpk := hbd k
    by_cases hkf : k < f
    · have hki : (k : Int) + 1 ≤ f := by omega
      have hst := hstep k
      have hpk1 := hbd (k + 1)
      rw [Nat.pow_succ] at hpk1
      have hlk : lead k v < 2 ^ (k + 1) := (lead_bd (f := k) h0 (by omega)).2
      have h8 : 2 ^ (k + 1) ≤ 8 := by rcases (show k = 0 ∨ k = 1 ∨ k = 2 by omega) with rfl | rfl | rfl <;> decide
      generalize hl0 : lead k v = l0 at *
      generalize hl1 : lead (k + 1) v = l1 at *
      by_cases hkt : k + 1 ≤ t
      · rw [if_pos hkt] at hst
        have hg : (0 : Int) ≤ (t : Int) - ((k : Int) + 1) := by omega
        have hd := tmod_bit v (t - (k + 1))
        have hval := val_step (l0 := l0) (l1 := l1) (s := t - (k + 1)) (v := v) (k := k) hpk hst
        have HV := Lib.hid hval
        clear hval
        have hsmall := val_small (l0 := l0) (s := t - (k + 1)) (v := v) (k := k) hlk h8
        go_wp2
        go_roundw
        case rel => exact ⟨k + 1, by omega, by go_num, by rw [hl1]; first | exact congrArg (Value.int .i64) HV.out | (rw [← HV.out]; done), by first | rfl | trivial⟩
        case measure => simp [intOf]; omega
      · rw [if_neg hkt] at hst
        have hg : (t : Int) - ((k : Int) + 1) < 0 := by omega
        have e3 : 2 ^ (k + 1) = 2 ^ k * 2 := Nat.pow_succ ..
        have hval : 2 * ((l0 - 2 ^ k : Nat) : Int) = ((l1 - 2 ^ (k + 1) : Nat) : Int) := by
          rw [hst, e3]; generalize 2 ^ k = p at hpk ⊢; omega
        have HV := Lib.hid hval
        clear hval e3
        go_wp2
        go_roundw
        case rel => exact ⟨k + 1, by omega, by go_num, by rw [hl1]; exact congrArg (Value.int .i64) HV.out, by first | rfl | trivial⟩
        case measure => simp [intOf]; omega
    · obtain rfl : k = f := by omega
      have hval : wrap64 (wrap64 (1 + wrap64 ((t : Int) * 2 ^ k)) + ((lead k v - 2 ^ k : Nat) : Int)) = (bucketN k v : Nat) := by
        rw [HB.out]
        exact val_end h ht63 hpk hld
      go_wp2
      go_ret
      exact ⟨congrArg (fun n => Ending.returned (Value.int .i64 n)) hval, (by repeat (first | exact Below.refl _ _ | assumption | (refine Below.setCell ?_ (by (first | omega | (simp; done) | (simp; omega) | (simp at *; omega))) _) | (refine Below.alloc ?_ (by (first | omega | (simp; done) | (simp; omega) | (simp at *; omega))) _) | (refine Below.drew ?_) | (refine Gr.into _ ?_ (by (first | omega | (simp; done) | (simp; omega) | (simp at *; omega))))))⟩
theorem rbucket_any (f : Int) (v : Nat) (w : World) (hv : v < 18446744073709551616) :
    Calls Try.prog 18 #[.int .i64 f, .int .u64 v] w fun e w' => e = .returned (.int .i64 (bucketB f v : Nat)) ∧ Below w.heap.size w w' := by
  cases h : fineB f
  · have e : bucketB f v = 0 := by unfold bucketB; rw [h]; rfl
    rw [e]; exact rbucket_no f v w (.inl h)
  · obtain ⟨h1, h2⟩ := fine_bd h
    obtain ⟨n, rfl⟩ := Int.eq_ofNat_of_zero_le (a := f) h1
    rw [bucketB_fine (by omega)]
    by_cases h0 : v = 0
    · have e : bucketN n v = 0 := by unfold bucketN; rw [if_pos h0]
      rw [e]; exact rbucket_no n v w (.inr h0)
    · exact rbucket_yes n v w (by omega) h0 hv
end Go.Proofs.Ytnoemopaplopdaa
