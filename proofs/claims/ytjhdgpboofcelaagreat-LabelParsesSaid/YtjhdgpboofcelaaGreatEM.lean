/- How twenty labels and more are sorted: symMerge, its two ends. -/
import Derived.Test.YtjhdgpboofcelaaGreatEK
namespace Go.Proofs.YtjhdgpboofcelaaGreat
open Go.RowKit

theorem cmp_any (x y : BLab) (w : World) : Calls Tryz.prog 29 #[LabV x, LabV y] w fun e w' => e = .returned (.int .i64 (cfB x y)) ∧ Below w.heap.size w w' :=
  (byName_any x y w).mono fun _ _ ⟨h1, h2⟩ => ⟨h1, h2 ▸ ((Below.refl _ _).alloc (Nat.le_refl _) _).alloc (by simp) _⟩
set_option maxRecDepth 100000 in
set_option maxHeartbeats 2000000 in
theorem symMerge_left (g n cap a b : Nat) (M : List BLab) (w : World) (hg : g < w.heap.size) (hR : RowOf g n M w) (hmb : a + 1 < b) (hb : b ≤ n) (hn : n ≤ 1000000) :
    Calls Tryz.prog 63 #[LSl g n cap, .int .i64 a, .int .i64 ((a + 1 : Nat) : Int), .int .i64 b, CfV] w fun e w' => e = .returned (.tuple #[]) ∧ Srt g n M w w' := by
  have mixed : Tryz.prog.follows .mixedOrders = true := by kernel_rfl
  obtain ⟨m, hm⟩ : ∃ m, m = a + 1 := ⟨_, rfl⟩
  rw [← hm]
  have e1 : (m : Int) - a = 1 := by omega
  have HM := Lib.hid hm
  clear hm
  go_enter Tryz.func63, Tryz.ntmps63
  go_wp2
  go_loopw [10, 11] (fun i j wr => ∃ p q : Nat, i = .int .i64 p ∧ j = .int .i64 q ∧ m ≤ p ∧ p ≤ q ∧ q ≤ b ∧ Srt g n M w wr)
    (fun i j _ => (intOf j).toNat - (intOf i).toNat)
  case atStart => exact ⟨m, b, rfl, rfl, Nat.le_refl _, by have := HM.out; omega, Nat.le_refl _, Srt.refl hR⟩
  case round =>
    obtain ⟨p, q, rfl, rfl, hp1, hpq, hq, hS⟩ := hrel
    have hgw : g < wr.heap.size := Nat.lt_of_lt_of_le hg hS.size
    by_cases hlt : p < q
    · have hlt' : (p : Int) < q := by omega
      obtain ⟨h, hh⟩ : ∃ h, h = (p + q) / 2 := ⟨_, rfl⟩
      have e2 : ((p : Int) + q) / 2 = h := by omega
      have hph : p ≤ h := by omega
      have hhq : h < q := by omega
      have hhn : (h : Int) < n := by omega
      have han : (a : Int) < n := by omega
      obtain ⟨dk, hH, hdn, hm⟩ := hS.2
      obtain ⟨c0, c1, -, -⟩ := row_cells hH h (by omega)
      obtain ⟨d0, d1, -, -⟩ := row_cells hH a (by omega)
      have hcm := fun W => cmp_any dk[h]! dk[a]! W
      clear hm hH hh
      generalize dk[h]! = x at *
      generalize dk[a]! = y at *
      generalize cfB x y = c at *
      by_cases hc : c < 0
      · go_wp2
        refine wp_region_gr (by kernel_rfl) (by kernel_rfl) ?_
        repeat (go_big_quiet_step (first | (go_at_call 29; exact Calls.gr (hcm _))))
        refine wpQuiet_nil ?_
        intro G
        have hgl := G.le
        go_wp2
        go_roundw
        case rel => exact ⟨h + 1, q, by go_num, rfl, by omega, by omega, hq, hS.below G.below hgw⟩
        case measure => simp [intOf]; omega
      · go_wp2
        refine wp_region_gr (by kernel_rfl) (by kernel_rfl) ?_
        repeat (go_big_quiet_step (first | (go_at_call 29; exact Calls.gr (hcm _))))
        refine wpQuiet_nil ?_
        intro G
        have hgl := G.le
        go_wp2
        go_roundw
        case rel => exact ⟨p, h, rfl, rfl, hp1, by omega, by omega, hS.below G.below hgw⟩
        case measure => simp [intOf]; omega
    · have hlt' : ¬ (p : Int) < q := by omega
      obtain ⟨r, hr⟩ : ∃ r, r = p - 1 := ⟨_, rfl⟩
      have hpm : 1 ≤ p := by have := HM.out; omega
      have e2 : (p : Int) - 1 = r := by omega
      have HR := Lib.hid hr
      clear hr
      go_wp2
      go_loopw [13] (fun i wi => ∃ t : Nat, i = .int .i64 t ∧ a ≤ t ∧ t ≤ r ∧ Srt g n M w wi)
        (fun i _ => r - (intOf i).toNat)
      case atStart => exact ⟨a, rfl, Nat.le_refl _, by have := HR.out; have := HM.out; omega, hS⟩
      case round =>
        obtain ⟨t, rfl, hta, htr, hSi⟩ := hrel
        by_cases htl : t < r
        · have htl' : (t : Int) < r := by omega
          have hgi : g < wr.heap.size := Nat.lt_of_lt_of_le hg hSi.size
          obtain ⟨dk, hH, hdn, hm⟩ := hSi.2
          obtain ⟨j, hj⟩ : ∃ j, j = t + 1 := ⟨_, rfl⟩
          have htn : t < n := by have := HR.out; omega
          have hjn : j < n := by have := HR.out; omega
          obtain ⟨c0, c1, f0, f1⟩ := row_cells hH t (by omega)
          obtain ⟨d0, d1, g0, g1⟩ := row_cells hH j (by omega)
          have hsw := swap_world wr g n M dk hgi hH hdn hm t j htn hjn
          have HSW := Lib.hid hsw
          clear hsw hm hH
          generalize dk[t]! = x at *
          generalize dk[j]! = y at *
          have i1 : (t : Int) < n := by omega
          have i2 : ((t : Int) + 1) < n := by omega
          have j2 : ((t : Int) + 1).toNat = j := by omega
          have p2 : (0 : Int) ≤ (t : Int) + 1 := by omega
          have n1 : ¬ j = t := by omega
          have n2 : ¬ t = j := by omega
          have n3 : ¬ j * 2 = t * 2 + 1 := by omega
          have n4 : ¬ t * 2 + 1 = j * 2 := by omega
          have n5 : ¬ j * 2 + 1 = t * 2 := by omega
          have n6 : ¬ t * 2 = j * 2 + 1 := by omega
          have HJ := Lib.hid hj
          clear hj
          go_wp2
          go_big_region_o
          all_goals go_wp2
          go_roundw
          case rel => exact ⟨t + 1, by go_num, by omega, by omega, hSi.trans HSW.out⟩
          case measure => simp [intOf]; omega
        · have htl' : ¬ (t : Int) < r := by omega
          go_wp2
          refine bodyPost_ret (results_none rfl _ _ _) rfl ?_
          exact ⟨rfl, hSi⟩

set_option maxRecDepth 100000 in
set_option maxHeartbeats 2000000 in
theorem symMerge_right (g n cap a m : Nat) (M : List BLab) (w : World) (hg : g < w.heap.size) (hR : RowOf g n M w) (ham : a + 1 < m) (hb : m + 1 ≤ n) (hn : n ≤ 1000000) :
    Calls Tryz.prog 63 #[LSl g n cap, .int .i64 a, .int .i64 m, .int .i64 ((m + 1 : Nat) : Int), CfV] w fun e w' => e = .returned (.tuple #[]) ∧ Srt g n M w w' := by
  have mixed : Tryz.prog.follows .mixedOrders = true := by kernel_rfl
  obtain ⟨b, hb1⟩ : ∃ b, b = m + 1 := ⟨_, rfl⟩
  rw [← hb1]
  obtain ⟨d0, hd0⟩ : ∃ d0, d0 = m - a := ⟨_, rfl⟩
  have e0 : (m : Int) - a = d0 := by omega
  have e00 : ((d0 : Int) == 1) = false := by simp; omega
  have e1 : (b : Int) - m = 1 := by omega
  have HM := Lib.hid hb1
  clear hb1 hd0
  go_enter Tryz.func63, Tryz.ntmps63
  go_wp2
  go_loopw [14, 15] (fun i j wr => ∃ p q : Nat, i = .int .i64 p ∧ j = .int .i64 q ∧ a ≤ p ∧ p ≤ q ∧ q ≤ m ∧ Srt g n M w wr)
    (fun i j _ => (intOf j).toNat - (intOf i).toNat)
  case atStart => exact ⟨a, m, rfl, rfl, Nat.le_refl _, by omega, Nat.le_refl _, Srt.refl hR⟩
  case round =>
    obtain ⟨p, q, rfl, rfl, hp1, hpq, hq, hS⟩ := hrel
    have hgw : g < wr.heap.size := Nat.lt_of_lt_of_le hg hS.size
    by_cases hlt : p < q
    · have hlt' : (p : Int) < q := by omega
      obtain ⟨h, hh⟩ : ∃ h, h = (p + q) / 2 := ⟨_, rfl⟩
      have e2 : ((p : Int) + q) / 2 = h := by omega
      have hph : p ≤ h := by omega
      have hhq : h < q := by omega
      have hhn : (h : Int) < n := by omega
      have han : (m : Int) < n := by omega
      obtain ⟨dk, hH, hdn, hm⟩ := hS.2
      obtain ⟨c0, c1, -, -⟩ := row_cells hH h (by omega)
      obtain ⟨d0, d1, -, -⟩ := row_cells hH m (by omega)
      have hcm := fun W => cmp_any dk[m]! dk[h]! W
      clear hm hH hh
      generalize dk[h]! = x at *
      generalize dk[m]! = y at *
      generalize cfB y x = c at *
      by_cases hc : c < 0
      · go_wp2
        refine wp_region_gr (by kernel_rfl) (by kernel_rfl) ?_
        repeat (go_big_quiet_step (first | (go_at_call 29; exact Calls.gr (hcm _))))
        refine wpQuiet_nil ?_
        intro G
        have hgl := G.le
        go_wp2
        go_roundw
        case rel => exact ⟨p, h, rfl, rfl, hp1, by omega, by omega, hS.below G.below hgw⟩
        case measure => simp [intOf]; omega
      · have hc' : 0 ≤ c := by omega
        go_wp2
        refine wp_region_gr (by kernel_rfl) (by kernel_rfl) ?_
        repeat (go_big_quiet_step (first | (go_at_call 29; exact Calls.gr (hcm _))))
        refine wpQuiet_nil ?_
        intro G
        have hgl := G.le
        have hdc : (!decide (c < 0)) = true := by rw [decide_eq_false (by omega)]; rfl
        go_wp2
        all_goals try (rename_i hx; exfalso; rw [hdc] at hx; cases hx; done)
        go_roundw
        case rel => exact ⟨h + 1, q, by go_num, rfl, by omega, by omega, hq, hS.below G.below hgw⟩
        case measure => simp [intOf]; omega
    · have hlt' : ¬ (p : Int) < q := by omega
      go_wp2
      go_loopw [17] (fun i wi => ∃ t : Nat, i = .int .i64 t ∧ p ≤ t ∧ t ≤ m ∧ Srt g n M w wi)
        (fun i _ => (intOf i).toNat)
      case atStart => exact ⟨m, rfl, by omega, Nat.le_refl _, hS⟩
      case round =>
        obtain ⟨t, rfl, hta, htr, hSi⟩ := hrel
        by_cases htl : p < t
        · have htl' : (p : Int) < t := by omega
          have hgi : g < wr.heap.size := Nat.lt_of_lt_of_le hg hSi.size
          obtain ⟨dk, hH, hdn, hm⟩ := hSi.2
          obtain ⟨j, hj⟩ : ∃ j, j = t - 1 := ⟨_, rfl⟩
          have htn : t < n := by omega
          have hjn : j < n := by omega
          obtain ⟨c0, c1, f0, f1⟩ := row_cells hH t (by omega)
          obtain ⟨d0, d1, g0, g1⟩ := row_cells hH j (by omega)
          have hsw := swap_world wr g n M dk hgi hH hdn hm t j htn hjn
          have HSW := Lib.hid hsw
          clear hsw hm hH
          generalize dk[t]! = x at *
          generalize dk[j]! = y at *
          have i1 : (t : Int) < n := by omega
          have e5 : (t : Int) - 1 = j := by omega
          have i2 : (j : Int) < n := by omega
          have n1 : ¬ j = t := by omega
          have n2 : ¬ t = j := by omega
          have n3 : ¬ j * 2 = t * 2 + 1 := by omega
          have n4 : ¬ t * 2 + 1 = j * 2 := by omega
          have n5 : ¬ j * 2 + 1 = t * 2 := by omega
          have n6 : ¬ t * 2 = j * 2 + 1 := by omega
          have HJ := Lib.hid (And.intro hj htl)
          clear hj
          go_wp2
          go_big_region_o
          all_goals go_wp2
          go_roundw
          case rel => exact ⟨j, rfl, by have := HJ.out; omega, by have := HJ.out; omega, hSi.trans HSW.out⟩
          case measure => have := HJ.out; simp [intOf]; omega
        · have htl' : ¬ (p : Int) < t := by omega
          go_wp2
          refine bodyPost_ret (results_none rfl _ _ _) rfl ?_
          exact ⟨rfl, hSi⟩
end Go.Proofs.YtjhdgpboofcelaaGreat
