/- The document's answer for layer 7: isBits, Right, Place, New. -/
import Derived.Test.YtngahohheleeeaaDoorA4
namespace Go.Proofs.YtngahohheleeeaaDoor
open Go.RowKit

set_option maxHeartbeats 400000 in
theorem risBits_any (n : Int) (w : World) :
    Calls Tryd.prog 47 #[.int .i64 n] w fun e w' => e = .returned (.bool (isBitsB n)) ∧ w = w' := by
  by_cases h1 : 3 ≤ n
  · by_cases h2 : n ≤ 8
    all_goals
      go_enter Tryd.func47, Tryd.ntmps47
      go_wp2
      go_ret
      exact ⟨by simp [isBitsB, *]; try omega, rfl⟩
  · go_enter Tryd.func47, Tryd.ntmps47
    go_wp2
    go_ret
    exact ⟨by simp [isBitsB, *]; try omega, rfl⟩

theorem rright_no1 (b : Int) (s : ByteArray) (w : World) (h : isBitsB b = false) :
    Calls Tryd.prog 29 #[.agg #[.int .i64 b, .string s]] w fun e w' => e = .returned (.bool false) ∧ Below w.heap.size w w' := by
  go_enter Tryd.func29, Tryd.ntmps29
  go_wp2
  refine wp_region_gr (by kernel_rfl) (by kernel_rfl) ?_
  repeat (go_big_quiet_step (first | (go_at_call 47; exact Calls.gr (below_self (risBits_any _ _)))))
  refine wpQuiet_nil ?_
  intro g
  go_wp2
  go_ret
  exact ⟨rfl, (by repeat (first | exact Below.refl _ _ | assumption | (refine Below.setCell ?_ (by (first | omega | (simp; done) | (simp; omega) | (simp at *; omega))) _) | (refine Below.alloc ?_ (by (first | omega | (simp; done) | (simp; omega) | (simp at *; omega))) _) | (refine Below.drew ?_) | (refine Gr.into _ ?_ (by (first | omega | (simp; done) | (simp; omega) | (simp at *; omega))))))⟩

theorem rright_no2 (b : Int) (s : ByteArray) (w : World) (h : isBitsB b = true) (hs : ((s.size : Int) != pwr b) = true) :
    Calls Tryd.prog 29 #[.agg #[.int .i64 b, .string s]] w fun e w' => e = .returned (.bool false) ∧ Below w.heap.size w w' := by
  obtain ⟨hb, hb'⟩ := isBits_bd h
  have hp := pwr_wrap hb hb'
  go_enter Tryd.func29, Tryd.ntmps29
  go_wp2
  refine wp_region_gr (by kernel_rfl) (by kernel_rfl) ?_
  repeat (go_big_quiet_step (first | (go_at_call 47; exact Calls.gr (below_self (risBits_any _ _)))))
  refine wpQuiet_nil ?_
  intro g
  go_wp2
  go_ret
  exact ⟨rfl, (by repeat (first | exact Below.refl _ _ | assumption | (refine Below.setCell ?_ (by (first | omega | (simp; done) | (simp; omega) | (simp at *; omega))) _) | (refine Below.alloc ?_ (by (first | omega | (simp; done) | (simp; omega) | (simp at *; omega))) _) | (refine Below.drew ?_) | (refine Gr.into _ ?_ (by (first | omega | (simp; done) | (simp; omega) | (simp at *; omega))))))⟩

theorem rright_go (b : Int) (s : ByteArray) (w : World) (h : isBitsB b = true) (hs : ((s.size : Int) != pwr b) = false) :
    Calls Tryd.prog 29 #[.agg #[.int .i64 b, .string s]] w fun e w' => e = .returned (.bool (upTo (65 - b) s.data.toList)) ∧ Below w.heap.size w w' := by
  obtain ⟨hb, hb'⟩ := isBits_bd h
  have hp := pwr_wrap hb hb'
  have hsz : s.size ≤ 256 := by have := pwr_bd hb hb'; simp at hs; omega
  go_enter Tryd.func29, Tryd.ntmps29
  go_wp2
  refine wp_region_gr (by kernel_rfl) (by kernel_rfl) ?_
  repeat (go_big_quiet_step (first | (go_at_call 47; exact Calls.gr (below_self (risBits_any _ _)))))
  refine wpQuiet_nil ?_
  intro g
  go_wp2
  go_loopw [3] (fun i wr => ∃ (k : Nat) (g : Gr (w.alloc (Obj.cells #[Value.int IntKind.i64 b, Value.string s] 26))), wr = g.world ∧ k ≤ s.size ∧ i = .int .i64 k ∧ upTo (65 - b) (s.data.toList.take k) = true)
    (fun i _ => s.size - (intOf i).toNat)
  case atStart => exact ⟨0, g, rfl, Nat.zero_le _, rfl, by simp [upTo]⟩
  case round =>
    obtain ⟨k, g, rfl, hk, rfl, hu⟩ := hrel
    by_cases hlt : k < s.size
    · have hbt : s[k].toNat < 256 := UInt8.toNat_lt _
      have hH : Hid (upTo (65 - b) (s.data.toList.take k) = true) := hu
      clear hu
      by_cases hle : (s[k].toNat : Int) ≤ 65 - b
      · have hle' : ((65 - b < (s[k].toNat : Int))) = False := by simp; omega
        go_wp2
        refine wp_region_gr' (by kernel_rfl) (by kernel_rfl) ?_
        repeat (go_big_quiet_step (first | fail))
        refine wpQuiet_nil ?_
        intro g2
        go_wp2
        go_roundw
        case rel => exact ⟨k + 1, g2, rfl, by omega, by go_num, by rw [upTo_snoc _ _ _ hlt, hH.out]; simpa using hle⟩
        case measure => simp [intOf]; omega
      · have hle' : ((65 - b < (s[k].toNat : Int))) = True := by simp; omega
        go_wp2
        refine wp_region_gr' (by kernel_rfl) (by kernel_rfl) ?_
        repeat (go_big_quiet_step (first | fail))
        refine wpQuiet_nil ?_
        intro g2
        go_wp2
        go_ret
        refine ⟨?_, (by repeat (first | exact Below.refl _ _ | assumption | (refine Below.setCell ?_ (by (first | omega | (simp; done) | (simp; omega) | (simp at *; omega))) _) | (refine Below.alloc ?_ (by (first | omega | (simp; done) | (simp; omega) | (simp at *; omega))) _) | (refine Below.drew ?_) | (refine Gr.into _ ?_ (by (first | omega | (simp; done) | (simp; omega) | (simp at *; omega))))))⟩
        rw [upTo_no _ _ k hlt (by omega)]
        rfl
    · go_wp2
      go_ret
      refine ⟨?_, (by repeat (first | exact Below.refl _ _ | assumption | (refine Below.setCell ?_ (by (first | omega | (simp; done) | (simp; omega) | (simp at *; omega))) _) | (refine Below.alloc ?_ (by (first | omega | (simp; done) | (simp; omega) | (simp at *; omega))) _) | (refine Below.drew ?_) | (refine Gr.into _ ?_ (by (first | omega | (simp; done) | (simp; omega) | (simp at *; omega))))))⟩
      rw [List.take_of_length_le (by simp; omega)] at hu
      rw [hu]
      rfl
theorem rright_any (b : Int) (s : ByteArray) (w : World) :
    Calls Tryd.prog 29 #[.agg #[.int .i64 b, .string s]] w fun e w' => e = .returned (.bool (rightB b s.data.toList)) ∧ Below w.heap.size w w' := by
  have es : s.data.toList.length = s.size := by simp
  cases h : isBitsB b
  · exact (rright_no1 b s w h).mono fun _ _ ⟨he, hb⟩ => ⟨by rw [he]; simp [rightB, h], hb⟩
  · cases h2 : ((s.size : Int) != pwr b)
    · exact (rright_go b s w h h2).mono fun _ _ ⟨he, hb⟩ => ⟨by rw [he]; simp only [rightB, h, es, h2]; rfl, hb⟩
    · exact (rright_no2 b s w h h2).mono fun _ _ ⟨he, hb⟩ => ⟨by rw [he]; simp only [rightB, h, es, h2]; rfl, hb⟩
end Go.Proofs.YtngahohheleeeaaDoor
