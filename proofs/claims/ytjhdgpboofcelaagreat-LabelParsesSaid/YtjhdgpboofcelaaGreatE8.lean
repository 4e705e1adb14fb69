/- The references: Least, Less, Same. -/
import Derived.Test.YtjhdgpboofcelaaGreatE7
namespace Go.Proofs.YtjhdgpboofcelaaGreat
open Go.RowKit

/-- Which of two texts is less, byte by byte. -/
def cmpU : List UInt8 → List UInt8 → Int
  | [], [] => 0
  | [], _ :: _ => -1
  | _ :: _, [] => 1
  | a :: x, b :: y => if a < b then -1 else if b < a then 1 else cmpU x y
theorem cmpU_eq : ∀ x y : List UInt8, (if Go.Op.bytesLess x y then (-1 : Int) else if x == y then 0 else 1) = cmpU x y
  | [], [] => rfl
  | [], _ :: _ => rfl
  | _ :: _, [] => rfl
  | a :: x, b :: y => by
    rw [bytesLess_eq]
    unfold cmpU
    rw [← cmpU_eq x y, bytesLess_eq]
    simp only [List.cons_lt_cons_iff, decide_eq_true_eq, List.cons_beq_cons, Bool.and_eq_true, beq_iff_eq]
    by_cases h1 : a < b
    · simp [h1]
    · by_cases h2 : b < a
      · have h3 : a ≠ b := by rintro rfl; exact h1 h2
        simp [h1, h2, h3]
      · have h3 : a = b := UInt8.le_antisymm (UInt8.not_lt.1 h2) (UInt8.not_lt.1 h1)
        subst h3
        simp [h1]
theorem cmpB_eq (x y : ByteArray) : cmpB x y = cmpU x.data.toList y.data.toList := by
  unfold cmpB
  rw [cmpU_eq, Lib.toList_data, Lib.toList_data]
theorem cmpU_step (x y : List UInt8) (k : Nat) (h1 : k < x.length) (h2 : k < y.length) : cmpU (x.drop k) (y.drop k) = if x[k] < y[k] then -1 else if y[k] < x[k] then 1 else cmpU (x.drop (k + 1)) (y.drop (k + 1)) := by
  rw [List.drop_eq_getElem_cons h1, List.drop_eq_getElem_cons h2]
  rfl
theorem cmpU_swap : ∀ x y : List UInt8, cmpU y x = - cmpU x y
  | [], [] => rfl
  | [], _ :: _ => rfl
  | _ :: _, [] => rfl
  | a :: x, b :: y => by
    unfold cmpU
    rw [cmpU_swap x y]
    by_cases h1 : a < b
    · have h2 : ¬ b < a := by have := UInt8.lt_asymm h1; exact this
      simp [h1, h2]
    · by_cases h2 : b < a <;> simp [h1, h2]
theorem cmpU_zero : ∀ x y : List UInt8, cmpU x y = 0 ↔ x = y
  | [], [] => by simp [cmpU]
  | [], _ :: _ => by simp [cmpU]
  | _ :: _, [] => by simp [cmpU]
  | a :: x, b :: y => by
    unfold cmpU
    by_cases h1 : a < b
    · have : a ≠ b := by rintro rfl; exact UInt8.lt_irrefl _ h1
      simp [h1, this]
    · by_cases h2 : b < a
      · have : a ≠ b := by rintro rfl; exact h1 h2
        simp [h1, h2, this]
      · have h3 : a = b := UInt8.le_antisymm (UInt8.not_lt.1 h2) (UInt8.not_lt.1 h1)
        subst h3
        simp [h1, cmpU_zero x y]
set_option maxRecDepth 100000 in
set_option maxHeartbeats 1000000 in
theorem least_any (x y : ByteArray) (w : World) (hx : x.size ≤ 1000000) (hy : y.size ≤ 1000000) :
    Calls Tryz.prog 45 #[.string x, .string y] w fun e w' => e = .returned (.int .i64 (cmpB x y)) ∧ Below w.heap.size w w' := by
  rw [cmpB_eq]
  have h0 : cmpU (x.data.toList.drop 0) (y.data.toList.drop 0) = cmpU x.data.toList y.data.toList := rfl
  generalize cmpU x.data.toList y.data.toList = C at *
  have H0 := Lib.hid h0
  clear h0
  go_enter Tryz.func45, Tryz.ntmps45
  go_wp2
  go_loopw [5] (fun i wr => ∃ k : Nat, k ≤ x.size ∧ k ≤ y.size ∧ i = .int .i64 k ∧ cmpU (x.data.toList.drop k) (y.data.toList.drop k) = C ∧ Below w.heap.size w wr)
    (fun i _ => x.size - (intOf i).toNat)
  case atStart => exact ⟨0, by omega, by omega, rfl, H0.out, Below.refl _ _⟩
  case round =>
    obtain ⟨k, hk1, hk2, rfl, hC, hB⟩ := hrel
    have hBs := hB.size
    by_cases hkx : k < x.size
    · have hkx' : (k : Int) < x.size := by omega
      by_cases hky : k < y.size
      · have hky' : (k : Int) < y.size := by omega
        have hst := cmpU_step x.data.toList y.data.toList k (by rw [data_length]; exact hkx) (by rw [data_length]; exact hky)
        rw [hst] at hC
        have e1 : (x.data.toList[k]'(by rw [data_length]; exact hkx)) = x[k] := by simp [ByteArray.getElem_eq_getElem_data]
        have e2 : (y.data.toList[k]'(by rw [data_length]; exact hky)) = y[k] := by simp [ByteArray.getElem_eq_getElem_data]
        rw [e1, e2] at hC
        simp only [UInt8.lt_iff_toNat_lt] at hC
        clear hst e1 e2
        by_cases h1 : x[k].toNat < y[k].toNat
        · rw [if_pos h1] at hC
          subst hC
          go_wp2
          refine wp_region_gr (by kernel_rfl) (by kernel_rfl) ?_
          repeat (go_big_quiet_step (first | fail))
          refine wpQuiet_nil ?_
          intro g
          have hgl := g.le
          go_wp2
          go_ret
          exact ⟨rfl, hB.trans (g.below.mono hBs)⟩
        · rw [if_neg h1] at hC
          by_cases h2 : y[k].toNat < x[k].toNat
          · rw [if_pos h2] at hC
            subst hC
            go_wp2
            refine wp_region_gr (by kernel_rfl) (by kernel_rfl) ?_
            repeat (go_big_quiet_step (first | fail))
            refine wpQuiet_nil ?_
            intro g
            have hgl := g.le
            go_wp2
            refine wp_region_gr' (by kernel_rfl) (by kernel_rfl) ?_
            repeat (go_big_quiet_step (first | fail))
            refine wpQuiet_nil ?_
            intro g2
            have hgl2 := g2.le
            go_wp2
            go_ret
            exact ⟨rfl, hB.trans (g2.below.mono hBs)⟩
          · rw [if_neg h2] at hC
            have HC := Lib.hid hC
            clear hC
            go_wp2
            refine wp_region_gr (by kernel_rfl) (by kernel_rfl) ?_
            repeat (go_big_quiet_step (first | fail))
            refine wpQuiet_nil ?_
            intro g
            have hgl := g.le
            go_wp2
            refine wp_region_gr' (by kernel_rfl) (by kernel_rfl) ?_
            repeat (go_big_quiet_step (first | fail))
            refine wpQuiet_nil ?_
            intro g2
            have hgl2 := g2.le
            go_wp2
            go_roundw
            case rel => exact ⟨k + 1, by omega, by omega, by go_num, HC.out, hB.trans (g2.below.mono hBs)⟩
            case measure => simp [intOf]; omega
      · have hky' : ¬ (k : Int) < y.size := by omega
        have hC1 : C = 1 := by
          rw [← hC, List.drop_eq_getElem_cons (show k < x.data.toList.length by rw [data_length]; exact hkx), List.drop_eq_nil_of_le (show y.data.toList.length ≤ k by rw [data_length]; omega)]
          rfl
        subst hC1
        have h3 : ¬ (x.size : Int) < y.size := by omega
        have h4 : (y.size : Int) < x.size := by omega
        clear hC
        go_wp2
        go_ret
        exact ⟨rfl, hB⟩
    · have hkx' : ¬ (k : Int) < x.size := by omega
      by_cases hlt : x.size < y.size
      · have hC1 : C = -1 := by
          rw [← hC, List.drop_eq_nil_of_le (show x.data.toList.length ≤ k by rw [data_length]; omega), List.drop_eq_getElem_cons (show k < y.data.toList.length by rw [data_length]; omega)]
          rfl
        subst hC1
        have h3 : (x.size : Int) < y.size := by omega
        clear hC
        go_wp2
        go_ret
        exact ⟨rfl, hB⟩
      · have hC1 : C = 0 := by
          rw [← hC, List.drop_eq_nil_of_le (show x.data.toList.length ≤ k by rw [data_length]; omega), List.drop_eq_nil_of_le (show y.data.toList.length ≤ k by rw [data_length]; omega)]
          rfl
        subst hC1
        have h3 : ¬ (x.size : Int) < y.size := by omega
        have h4 : ¬ (y.size : Int) < x.size := by omega
        clear hC
        go_wp2
        go_ret
        exact ⟨rfl, hB⟩
end Go.Proofs.YtjhdgpboofcelaaGreat
