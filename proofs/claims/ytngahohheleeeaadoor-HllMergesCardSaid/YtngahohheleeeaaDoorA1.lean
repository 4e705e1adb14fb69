/- The small functions of package hll, and Right. -/
import Derived.Test.YtngahohheleeeaaDoorBase
namespace Go.Proofs.YtngahohheleeeaaDoor
open Go.RowKit

def isBitsB (n : Int) : Bool := decide (3 ≤ n) && decide (n ≤ 8)

set_option maxHeartbeats 400000 in
theorem isBits_any (n : Int) (w : World) :
    Calls Tryd.prog 20 #[.int .i64 n] w fun e w' => e = .returned (.bool (isBitsB n)) ∧ w = w' := by
  by_cases h1 : 3 ≤ n
  · by_cases h2 : n ≤ 8
    all_goals
      go_enter Tryd.func20, Tryd.ntmps20
      go_wp2
      go_ret
      exact ⟨by simp [isBitsB, *]; try omega, rfl⟩
  · go_enter Tryd.func20, Tryd.ntmps20
    go_wp2
    go_ret
    exact ⟨by simp [isBitsB, *]; try omega, rfl⟩

set_option maxHeartbeats 400000 in
theorem most_any (n : Int) (w : World) (h : 0 ≤ n) (h' : n ≤ 8) :
    Calls Tryd.prog 24 #[.int .i64 n] w fun e w' => e = .returned (.int .i64 (65 - n)) ∧ w = w' := by
  go_enter Tryd.func24, Tryd.ntmps24
  go_wp2
  go_ret
  exact ⟨rfl, rfl⟩
def lowB (a b : Int) : Int := if 0 < a then a + 1 else min b 1
set_option maxHeartbeats 400000 in
theorem lowered_any (a b : Int) (w : World) (h : 0 ≤ a) (h' : a ≤ 63) (h2 : 0 ≤ b) (h3 : b ≤ 255) :
    Calls Tryd.prog 30 #[.int .u8 a, .int .u8 b] w fun e w' => e = .returned (.int .u8 (lowB a b)) ∧ w = w' := by
  by_cases h0 : 0 < a <;> by_cases h1 : 1 < b
  all_goals
    go_enter Tryd.func30, Tryd.ntmps30
    go_wp2
    go_ret
    refine ⟨congrArg (fun n => Ending.returned (Value.int .u8 n)) ?_, rfl⟩
    unfold lowB
    omega

theorem right_no1 (b : Int) (s : ByteArray) (w : World) (h : isBitsB b = false) :
    Calls Tryd.prog 11 #[.agg #[.int .i64 b, .string s]] w fun e w' => e = .returned (.bool false) ∧ Below w.heap.size w w' := by
  go_enter Tryd.func11, Tryd.ntmps11
  go_wp2
  go_step3
  go_wp2
  refine wp_region_gr (by kernel_rfl) (by kernel_rfl) ?_
  repeat (go_big_quiet_step (exact Calls.gr (below_self (isBits_any _ _))))
  refine wpQuiet_nil ?_
  intro g
  go_wp2
  rw [Exit.noGoto_ret]
  go_ret
  exact ⟨rfl, g.into ((Below.refl _ _).alloc (Nat.le_refl _) _) (by simp)⟩


def pwr (b : Int) : Int := 2 ^ b.toNat
theorem pwr_wrap {b : Int} (hb : 3 ≤ b) (hb' : b ≤ 8) : wrap64 (2 ^ b.toNat) = pwr b := by
  have : b = 3 ∨ b = 4 ∨ b = 5 ∨ b = 6 ∨ b = 7 ∨ b = 8 := by omega
  rcases this with rfl | rfl | rfl | rfl | rfl | rfl <;> decide +kernel
theorem pwr_bd {b : Int} (hb : 3 ≤ b) (hb' : b ≤ 8) : 8 ≤ pwr b ∧ pwr b ≤ 256 := by
  have : b = 3 ∨ b = 4 ∨ b = 5 ∨ b = 6 ∨ b = 7 ∨ b = 8 := by omega
  rcases this with rfl | rfl | rfl | rfl | rfl | rfl <;> decide +kernel
theorem isBits_bd {b : Int} (h : isBitsB b = true) : 3 ≤ b ∧ b ≤ 8 := by simpa [isBitsB] using h

theorem right_no2 (b : Int) (s : ByteArray) (w : World) (h : isBitsB b = true) (hs : ((s.size : Int) != pwr b) = true) :
    Calls Tryd.prog 11 #[.agg #[.int .i64 b, .string s]] w fun e w' => e = .returned (.bool false) ∧ Below w.heap.size w w' := by
  obtain ⟨hb, hb'⟩ := isBits_bd h
  have hp := pwr_wrap hb hb'
  go_enter Tryd.func11, Tryd.ntmps11
  go_wp2
  go_step3
  go_wp2
  refine wp_region_gr (by kernel_rfl) (by kernel_rfl) ?_
  repeat (go_big_quiet_step (exact Calls.gr (below_self (isBits_any _ _))))
  refine wpQuiet_nil ?_
  intro g
  go_wp2
  rw [Exit.noGoto_ret]
  go_ret
  exact ⟨rfl, g.into ((Below.refl _ _).alloc (Nat.le_refl _) _) (by simp)⟩

def upTo (m : Int) (l : List UInt8) : Bool := l.all fun c => decide ((c.toNat : Int) ≤ m)
theorem upTo_snoc (m : Int) (s : ByteArray) (k : Nat) (h : k < s.size) : upTo m (s.data.toList.take (k + 1)) = (upTo m (s.data.toList.take k) && decide ((s[k].toNat : Int) ≤ m)) := by
  have e : s.data.toList.take (k + 1) = s.data.toList.take k ++ [s[k]] := by
    rw [List.take_succ_eq_append_getElem (by simpa using h)]; rfl
  rw [e]; simp [upTo]
theorem upTo_no (m : Int) (s : ByteArray) (k : Nat) (h : k < s.size) (hm : ¬ (s[k].toNat : Int) ≤ m) : upTo m s.data.toList = false := by
  unfold upTo
  rw [List.all_eq_false]
  exact ⟨s[k], by show s.data[k] ∈ _; simp, by simpa using hm⟩
theorem right_go (b : Int) (s : ByteArray) (w : World) (h : isBitsB b = true) (hs : ((s.size : Int) != pwr b) = false) :
    Calls Tryd.prog 11 #[.agg #[.int .i64 b, .string s]] w fun e w' => e = .returned (.bool (upTo (65 - b) s.data.toList)) ∧ Below w.heap.size w w' := by
  obtain ⟨hb, hb'⟩ := isBits_bd h
  have hp := pwr_wrap hb hb'
  have hsz : s.size ≤ 256 := by have := pwr_bd hb hb'; simp at hs; omega
  go_enter Tryd.func11, Tryd.ntmps11
  go_wp2
  go_step3
  go_wp2
  refine wp_region_gr (by kernel_rfl) (by kernel_rfl) ?_
  repeat (go_big_quiet_step (exact Calls.gr (below_self (isBits_any _ _))))
  refine wpQuiet_nil ?_
  intro g
  go_wp2
  go_step3
  go_wp2
  go_loopw [3, 4, 21] (fun r _ i wr => ∃ (k : Nat) (g : Gr (w.alloc (Obj.cells #[Value.int IntKind.i64 b, Value.string s] 26))), wr = g.world ∧ k ≤ s.size ∧ i = .int .i64 k ∧ r = .bool true ∧ upTo (65 - b) (s.data.toList.take k) = true)
    (fun _ _ i _ => s.size - (intOf i).toNat)
  case atStart => exact ⟨0, g, rfl, Nat.zero_le _, rfl, rfl, by simp [upTo]⟩
  case round =>
    obtain ⟨k, g, rfl, hk, rfl, rfl, hu⟩ := hrel
    by_cases hlt : k < s.size
    · have hbt : s[k].toNat < 256 := UInt8.toNat_lt _
      have hH : Hid (upTo (65 - b) (s.data.toList.take k) = true) := hu
      clear hu
      by_cases hle : (s[k].toNat : Int) ≤ 65 - b
      · go_wp2
        refine wp_region_gr' (by kernel_rfl) (by kernel_rfl) ?_
        repeat (go_big_quiet_step (exact Calls.gr (below_self (most_any _ _ (by omega) (by omega)))))
        refine wpQuiet_nil ?_
        intro g2
        go_wp2
        go_roundw
        case rel => exact ⟨k + 1, g2, rfl, by omega, by go_num, rfl, by rw [upTo_snoc _ _ _ hlt, hH.out]; simpa using hle⟩
        case measure => simp [intOf]; omega
      · go_wp2
        refine wp_region_gr' (by kernel_rfl) (by kernel_rfl) ?_
        repeat (go_big_quiet_step (exact Calls.gr (below_self (most_any _ _ (by omega) (by omega)))))
        refine wpQuiet_nil ?_
        intro g2
        go_wp2
        rw [Exit.noGoto_ret]
        go_ret
        refine ⟨?_, g2.into ((Below.refl _ _).alloc (Nat.le_refl _) _) (by simp)⟩
        rw [upTo_no _ _ k hlt (by omega)]
        rfl
    · go_wp2
      rw [Exit.noGoto_ret]
      go_ret
      refine ⟨?_, g.into ((Below.refl _ _).alloc (Nat.le_refl _) _) (by simp)⟩
      rw [List.take_of_length_le (by simp; omega)] at hu
      rw [hu]
      rfl
end Go.Proofs.YtngahohheleeeaaDoor
