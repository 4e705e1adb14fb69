/- How twenty labels and more are sorted: symMerge. -/
import Derived.Test.YtjhdgpboofcelaaGreatEM
namespace Go.Proofs.YtjhdgpboofcelaaGreat
open Go.RowKit

/-- What is asked of a call of symMerge. -/
def MergeLaw (g n cap : Nat) (M : List BLab) (k : Nat) : Prop := ∀ (a m b : Nat) (w : World), b - a ≤ k → a < m → m < b → b ≤ n → g < w.heap.size → RowOf g n M w →
  Calls Tryz.prog 63 #[LSl g n cap, .int .i64 a, .int .i64 m, .int .i64 b, CfV] w fun e w' => e = .returned (.tuple #[]) ∧ Srt g n M w w'
set_option maxRecDepth 100000 in
set_option maxHeartbeats 4000000 in
theorem symMerge_far (g n cap a m b : Nat) (M : List BLab) (w : World) (hg : g < w.heap.size) (hR : RowOf g n M w) (ham : a + 1 < m) (hmb : m + 1 < b) (hb : b ≤ n) (hn : n ≤ 1000000) (hcd : (a + b) / 2 < m) (IH : MergeLaw g n cap M (b - a - 1)) :
    Calls Tryz.prog 63 #[LSl g n cap, .int .i64 a, .int .i64 m, .int .i64 b, CfV] w fun e w' => e = .returned (.tuple #[]) ∧ Srt g n M w w' := by
  obtain ⟨d0, hd0⟩ : ∃ d0, d0 = m - a := ⟨_, rfl⟩
  obtain ⟨d1, hd1⟩ : ∃ d1, d1 = b - m := ⟨_, rfl⟩
  have e0 : (m : Int) - a = d0 := by omega
  have e00 : ((d0 : Int) == 1) = false := by simp; omega
  have e1 : (b : Int) - m = d1 := by omega
  have e11 : ((d1 : Int) == 1) = false := by simp; omega
  obtain ⟨mid, hmid⟩ : ∃ mid, mid = (a + b) / 2 := ⟨_, rfl⟩
  obtain ⟨N, hN⟩ : ∃ N, N = mid + m := ⟨_, rfl⟩
  obtain ⟨P, hP⟩ : ∃ P, P = N - 1 := ⟨_, rfl⟩
  have em : ((a : Int) + b) / 2 = mid := by omega
  have eN : (mid : Int) + m = N := by omega
  have eP : (N : Int) - 1 = P := by omega
  obtain ⟨L, hL⟩ : ∃ L, L = N - b := ⟨_, rfl⟩
  have eL : (N : Int) - b = L := by omega
  have hcd' : (mid : Int) < m := by omega
  have hmd1 : a < mid := by omega
  have hmd2 : mid < b := by omega
  have HD := Lib.hid (And.intro hd0 hd1)
  have HA := Lib.hid (And.intro hmid (And.intro hN (And.intro hP (And.intro hcd hL))))
  clear hd0 hd1 hmid hN hP hcd hL
  have HI := Lib.hid IH
  clear IH
  go_enter Tryz.func63, Tryz.ntmps63
  go_wp2
  go_loopw [20, 21] (fun i j wr => ∃ s r : Nat, i = .int .i64 s ∧ j = .int .i64 r ∧ L ≤ s ∧ s ≤ r ∧ r ≤ mid ∧ Srt g n M w wr)
    (fun i j _ => (intOf j).toNat - (intOf i).toNat)
  case atStart => exact ⟨L, mid, rfl, rfl, Nat.le_refl _, by have := HA.out; omega, Nat.le_refl _, Srt.refl hR⟩
  case round =>
    obtain ⟨s, r, rfl, rfl, hs1, hsr, hr1, hS⟩ := hrel
    obtain ⟨hmid, hN, hP, hcd, hL⟩ := HA.out
    have IH := HI.out
    have hgw : g < wr.heap.size := Nat.lt_of_lt_of_le hg hS.size
    by_cases hlt : s < r
    · have hlt' : (s : Int) < r := by omega
      obtain ⟨h, hh⟩ : ∃ h, h = (s + r) / 2 := ⟨_, rfl⟩
      have e2 : ((s : Int) + r) / 2 = h := by omega
      have hph : s ≤ h := by omega
      have hhq : h < r := by omega
      obtain ⟨d, hd⟩ : ∃ d, d = P - h := ⟨_, rfl⟩
      have e3 : (P : Int) - h = d := by omega
      have hdn' : d < n := by omega
      have hhn : (h : Int) < n := by omega
      have hdn2 : (d : Int) < n := by omega
      obtain ⟨dk, hH, hdn, hm⟩ := hS.2
      obtain ⟨c0, c1, -, -⟩ := row_cells hH h (by omega)
      obtain ⟨x0, x1, -, -⟩ := row_cells hH d (by omega)
      have hcm := fun W => cmp_any dk[d]! dk[h]! W
      clear hm hH hh hd IH hmid hN hP hcd hL
      generalize dk[h]! = x at *
      generalize dk[d]! = y at *
      generalize cfB y x = c at *
      by_cases hc : c < 0
      · go_wp2
        refine wp_region_gr (by kernel_rfl) (by kernel_rfl) ?_
        repeat (go_big_quiet_step (first | (go_at_call 29; exact Calls.gr (hcm _))))
        refine wpQuiet_nil ?_
        intro G
        have hgl := G.le
        go_wp2
        go_roundw
        case rel => exact ⟨s, h, rfl, rfl, hs1, by omega, by omega, hS.below G.below hgw⟩
        case measure => simp [intOf]; omega
      · have hc' : 0 ≤ c := by omega
        go_wp2
        refine wp_region_gr (by kernel_rfl) (by kernel_rfl) ?_
        repeat (go_big_quiet_step (first | (go_at_call 29; exact Calls.gr (hcm _))))
        refine wpQuiet_nil ?_
        intro G
        have hgl := G.le
        have hdc : (!decide (c < 0)) = true := by rw [decide_eq_false (by omega)]; rfl
        go_wp2
        all_goals try (rename_i hx; exfalso; rw [hdc] at hx; cases hx; done)
        go_roundw
        case rel => exact ⟨h + 1, r, by go_num, rfl, by omega, by omega, hr1, hS.below G.below hgw⟩
        case measure => simp [intOf]; omega
    · have hlt' : ¬ (s : Int) < r := by omega
      obtain ⟨z, hz⟩ : ∃ z, z = N - s := ⟨_, rfl⟩
      have ez : (N : Int) - s = z := by omega
      have q1 : (s : Int) < m := by omega
      by_cases h2 : s < mid
      · have q2 : (m : Int) < z := by omega
        have q4 : (s : Int) < mid := by omega
        have hrot := fun W h1 h2 => rotate_any g n cap s m z M W h1 h2 (by omega) (by omega) (by omega) hn
        by_cases h3 : a < s
        · have q3 : (a : Int) < s := by omega
          have htwo := fun W h1 h2 => IH a s mid W (by omega) (by omega) (by omega) (by omega) h1 h2
          have q5 : (mid : Int) < z := by omega
          by_cases h6 : z < b
          · have q6 : (z : Int) < b := by omega
            have hthr := fun W h1 h2 => IH mid z b W (by omega) (by omega) (by omega) (by omega) h1 h2
            clear IH hz hmid hN hP hcd hL hmd1 hmd2
            go_wp2_with fail
            refine (hrot wr (Nat.lt_of_lt_of_le hg (Srt.size hS)) hS.2).mono ?_
            rintro e v1 ⟨rfl, hS1⟩
            have T1 := hS.trans hS1
            go_wp2_with fail
            refine (htwo v1 (Nat.lt_of_lt_of_le hg (Srt.size T1)) T1.2).mono ?_
            rintro e v2 ⟨rfl, hS2⟩
            have T2 := T1.trans hS2
            go_wp2_with fail
            refine (hthr v2 (Nat.lt_of_lt_of_le hg (Srt.size T2)) T2.2).mono ?_
            rintro e v3 ⟨rfl, hS3⟩
            have T3 := T2.trans hS3
            go_wp2_with fail
            go_end0
            exact ⟨rfl, T3⟩
          · have q6 : ¬ (z : Int) < b := by omega
            clear IH hz hmid hN hP hcd hL hmd1 hmd2
            go_wp2_with fail
            refine (hrot wr (Nat.lt_of_lt_of_le hg (Srt.size hS)) hS.2).mono ?_
            rintro e v1 ⟨rfl, hS1⟩
            have T1 := hS.trans hS1
            go_wp2_with fail
            refine (htwo v1 (Nat.lt_of_lt_of_le hg (Srt.size T1)) T1.2).mono ?_
            rintro e v2 ⟨rfl, hS2⟩
            have T2 := T1.trans hS2
            go_wp2_with fail
            go_end0
            exact ⟨rfl, T2⟩
        · have q3 : ¬ (a : Int) < s := by omega
          have q5 : (mid : Int) < z := by omega
          by_cases h6 : z < b
          · have q6 : (z : Int) < b := by omega
            have hthr := fun W h1 h2 => IH mid z b W (by omega) (by omega) (by omega) (by omega) h1 h2
            clear IH hz hmid hN hP hcd hL hmd1 hmd2
            go_wp2_with fail
            refine (hrot wr (Nat.lt_of_lt_of_le hg (Srt.size hS)) hS.2).mono ?_
            rintro e v1 ⟨rfl, hS1⟩
            have T1 := hS.trans hS1
            go_wp2_with fail
            refine (hthr v1 (Nat.lt_of_lt_of_le hg (Srt.size T1)) T1.2).mono ?_
            rintro e v2 ⟨rfl, hS2⟩
            have T2 := T1.trans hS2
            go_wp2_with fail
            go_end0
            exact ⟨rfl, T2⟩
          · have q6 : ¬ (z : Int) < b := by omega
            clear IH hz hmid hN hP hcd hL hmd1 hmd2
            go_wp2_with fail
            refine (hrot wr (Nat.lt_of_lt_of_le hg (Srt.size hS)) hS.2).mono ?_
            rintro e v1 ⟨rfl, hS1⟩
            have T1 := hS.trans hS1
            go_wp2_with fail
            go_end0
            exact ⟨rfl, T1⟩
      · have q2 : ¬ (m : Int) < z := by omega
        have q3 : (a : Int) < s := by omega
        have q4 : ¬ (s : Int) < mid := by omega
        have q5 : (mid : Int) < z := by omega
        by_cases h6 : z < b
        · have q6 : (z : Int) < b := by omega
          have hthr := fun W h1 h2 => IH mid z b W (by omega) (by omega) (by omega) (by omega) h1 h2
          clear IH hz hmid hN hP hcd hL hmd1 hmd2
          go_wp2_with fail
          refine (hthr wr (Nat.lt_of_lt_of_le hg (Srt.size hS)) hS.2).mono ?_
          rintro e v1 ⟨rfl, hS1⟩
          have T1 := hS.trans hS1
          go_wp2_with fail
          go_end0
          exact ⟨rfl, T1⟩
        · have q6 : ¬ (z : Int) < b := by omega
          clear IH hz hmid hN hP hcd hL hmd1 hmd2
          go_wp2_with fail
          go_end0
          exact ⟨rfl, hS⟩
set_option maxRecDepth 100000 in
set_option maxHeartbeats 4000000 in
theorem symMerge_near (g n cap a m b : Nat) (M : List BLab) (w : World) (hg : g < w.heap.size) (hR : RowOf g n M w) (ham : a + 1 < m) (hmb : m + 1 < b) (hb : b ≤ n) (hn : n ≤ 1000000) (hcd : m ≤ (a + b) / 2) (IH : MergeLaw g n cap M (b - a - 1)) :
    Calls Tryz.prog 63 #[LSl g n cap, .int .i64 a, .int .i64 m, .int .i64 b, CfV] w fun e w' => e = .returned (.tuple #[]) ∧ Srt g n M w w' := by
  obtain ⟨d0, hd0⟩ : ∃ d0, d0 = m - a := ⟨_, rfl⟩
  obtain ⟨d1, hd1⟩ : ∃ d1, d1 = b - m := ⟨_, rfl⟩
  have e0 : (m : Int) - a = d0 := by omega
  have e00 : ((d0 : Int) == 1) = false := by simp; omega
  have e1 : (b : Int) - m = d1 := by omega
  have e11 : ((d1 : Int) == 1) = false := by simp; omega
  obtain ⟨mid, hmid⟩ : ∃ mid, mid = (a + b) / 2 := ⟨_, rfl⟩
  obtain ⟨N, hN⟩ : ∃ N, N = mid + m := ⟨_, rfl⟩
  obtain ⟨P, hP⟩ : ∃ P, P = N - 1 := ⟨_, rfl⟩
  have em : ((a : Int) + b) / 2 = mid := by omega
  have eN : (mid : Int) + m = N := by omega
  have eP : (N : Int) - 1 = P := by omega
  have hcd' : ¬ (mid : Int) < m := by omega
  have hmd1 : a < mid := by omega
  have hmd2 : mid < b := by omega
  have HD := Lib.hid (And.intro hd0 hd1)
  have HA := Lib.hid (And.intro hmid (And.intro hN (And.intro hP hcd)))
  clear hd0 hd1 hmid hN hP hcd 
  have HI := Lib.hid IH
  clear IH
  go_enter Tryz.func63, Tryz.ntmps63
  go_wp2
  go_loopw [20, 21] (fun i j wr => ∃ s r : Nat, i = .int .i64 s ∧ j = .int .i64 r ∧ a ≤ s ∧ s ≤ r ∧ r ≤ m ∧ Srt g n M w wr)
    (fun i j _ => (intOf j).toNat - (intOf i).toNat)
  case atStart => exact ⟨a, m, rfl, rfl, Nat.le_refl _, by have := HA.out; omega, Nat.le_refl _, Srt.refl hR⟩
  case round =>
    obtain ⟨s, r, rfl, rfl, hs1, hsr, hr1, hS⟩ := hrel
    obtain ⟨hmid, hN, hP, hcd⟩ := HA.out
    have IH := HI.out
    have hgw : g < wr.heap.size := Nat.lt_of_lt_of_le hg hS.size
    by_cases hlt : s < r
    · have hlt' : (s : Int) < r := by omega
      obtain ⟨h, hh⟩ : ∃ h, h = (s + r) / 2 := ⟨_, rfl⟩
      have e2 : ((s : Int) + r) / 2 = h := by omega
      have hph : s ≤ h := by omega
      have hhq : h < r := by omega
      obtain ⟨d, hd⟩ : ∃ d, d = P - h := ⟨_, rfl⟩
      have e3 : (P : Int) - h = d := by omega
      have hdn' : d < n := by omega
      have hhn : (h : Int) < n := by omega
      have hdn2 : (d : Int) < n := by omega
      obtain ⟨dk, hH, hdn, hm⟩ := hS.2
      obtain ⟨c0, c1, -, -⟩ := row_cells hH h (by omega)
      obtain ⟨x0, x1, -, -⟩ := row_cells hH d (by omega)
      have hcm := fun W => cmp_any dk[d]! dk[h]! W
      clear hm hH hh hd IH hmid hN hP hcd 
      generalize dk[h]! = x at *
      generalize dk[d]! = y at *
      generalize cfB y x = c at *
      by_cases hc : c < 0
      · go_wp2
        refine wp_region_gr (by kernel_rfl) (by kernel_rfl) ?_
        repeat (go_big_quiet_step (first | (go_at_call 29; exact Calls.gr (hcm _))))
        refine wpQuiet_nil ?_
        intro G
        have hgl := G.le
        go_wp2
        go_roundw
        case rel => exact ⟨s, h, rfl, rfl, hs1, by omega, by omega, hS.below G.below hgw⟩
        case measure => simp [intOf]; omega
      · have hc' : 0 ≤ c := by omega
        go_wp2
        refine wp_region_gr (by kernel_rfl) (by kernel_rfl) ?_
        repeat (go_big_quiet_step (first | (go_at_call 29; exact Calls.gr (hcm _))))
        refine wpQuiet_nil ?_
        intro G
        have hgl := G.le
        have hdc : (!decide (c < 0)) = true := by rw [decide_eq_false (by omega)]; rfl
        go_wp2
        all_goals try (rename_i hx; exfalso; rw [hdc] at hx; cases hx; done)
        go_roundw
        case rel => exact ⟨h + 1, r, by go_num, rfl, by omega, by omega, hr1, hS.below G.below hgw⟩
        case measure => simp [intOf]; omega
    · have hlt' : ¬ (s : Int) < r := by omega
      obtain ⟨z, hz⟩ : ∃ z, z = N - s := ⟨_, rfl⟩
      have ez : (N : Int) - s = z := by omega
      by_cases h2 : s < m
      · have q1 : (s : Int) < m := by omega
        have q2 : (m : Int) < z := by omega
        have q4 : (s : Int) < mid := by omega
        have hrot := fun W h1 h2 => rotate_any g n cap s m z M W h1 h2 (by omega) (by omega) (by omega) hn
        by_cases h3 : a < s
        · have q3 : (a : Int) < s := by omega
          have htwo := fun W h1 h2 => IH a s mid W (by omega) (by omega) (by omega) (by omega) h1 h2
          have q5 : (mid : Int) < z := by omega
          by_cases h6 : z < b
          · have q6 : (z : Int) < b := by omega
            have hthr := fun W h1 h2 => IH mid z b W (by omega) (by omega) (by omega) (by omega) h1 h2
            clear IH hz hmid hN hP hcd  hmd1 hmd2
            go_wp2_with fail
            refine (hrot wr (Nat.lt_of_lt_of_le hg (Srt.size hS)) hS.2).mono ?_
            rintro e v1 ⟨rfl, hS1⟩
            have T1 := hS.trans hS1
            go_wp2_with fail
            refine (htwo v1 (Nat.lt_of_lt_of_le hg (Srt.size T1)) T1.2).mono ?_
            rintro e v2 ⟨rfl, hS2⟩
            have T2 := T1.trans hS2
            go_wp2_with fail
            refine (hthr v2 (Nat.lt_of_lt_of_le hg (Srt.size T2)) T2.2).mono ?_
            rintro e v3 ⟨rfl, hS3⟩
            have T3 := T2.trans hS3
            go_wp2_with fail
            go_end0
            exact ⟨rfl, T3⟩
          · have q6 : ¬ (z : Int) < b := by omega
            clear IH hz hmid hN hP hcd  hmd1 hmd2
            go_wp2_with fail
            refine (hrot wr (Nat.lt_of_lt_of_le hg (Srt.size hS)) hS.2).mono ?_
            rintro e v1 ⟨rfl, hS1⟩
            have T1 := hS.trans hS1
            go_wp2_with fail
            refine (htwo v1 (Nat.lt_of_lt_of_le hg (Srt.size T1)) T1.2).mono ?_
            rintro e v2 ⟨rfl, hS2⟩
            have T2 := T1.trans hS2
            go_wp2_with fail
            go_end0
            exact ⟨rfl, T2⟩
        · have q3 : ¬ (a : Int) < s := by omega
          have q5 : (mid : Int) < z := by omega
          by_cases h6 : z < b
          · have q6 : (z : Int) < b := by omega
            have hthr := fun W h1 h2 => IH mid z b W (by omega) (by omega) (by omega) (by omega) h1 h2
            clear IH hz hmid hN hP hcd  hmd1 hmd2
            go_wp2_with fail
            refine (hrot wr (Nat.lt_of_lt_of_le hg (Srt.size hS)) hS.2).mono ?_
            rintro e v1 ⟨rfl, hS1⟩
            have T1 := hS.trans hS1
            go_wp2_with fail
            refine (hthr v1 (Nat.lt_of_lt_of_le hg (Srt.size T1)) T1.2).mono ?_
            rintro e v2 ⟨rfl, hS2⟩
            have T2 := T1.trans hS2
            go_wp2_with fail
            go_end0
            exact ⟨rfl, T2⟩
          · have q6 : ¬ (z : Int) < b := by omega
            clear IH hz hmid hN hP hcd  hmd1 hmd2
            go_wp2_with fail
            refine (hrot wr (Nat.lt_of_lt_of_le hg (Srt.size hS)) hS.2).mono ?_
            rintro e v1 ⟨rfl, hS1⟩
            have T1 := hS.trans hS1
            go_wp2_with fail
            go_end0
            exact ⟨rfl, T1⟩
      · have q1 : ¬ (s : Int) < m := by omega
        have q3 : (a : Int) < s := by omega
        by_cases h4 : s < mid
        · have q4 : (s : Int) < mid := by omega
          have htwo := fun W h1 h2 => IH a s mid W (by omega) (by omega) (by omega) (by omega) h1 h2
          have q5 : ¬ (mid : Int) < z := by omega
          clear IH hz hmid hN hP hcd  hmd1 hmd2
          go_wp2_with fail
          refine (htwo wr (Nat.lt_of_lt_of_le hg (Srt.size hS)) hS.2).mono ?_
          rintro e v1 ⟨rfl, hS1⟩
          have T1 := hS.trans hS1
          go_wp2_with fail
          go_end0
          exact ⟨rfl, T1⟩
        · have q4 : ¬ (s : Int) < mid := by omega
          have q5 : ¬ (mid : Int) < z := by omega
          clear IH hz hmid hN hP hcd  hmd1 hmd2
          go_wp2_with fail
          go_end0
          exact ⟨rfl, hS⟩
end Go.Proofs.YtjhdgpboofcelaaGreat
