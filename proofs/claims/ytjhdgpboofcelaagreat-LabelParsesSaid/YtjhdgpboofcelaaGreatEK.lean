/- How twenty labels and more are sorted: what of it is asked (it ends; the row holds labels of the row): swapRange. -/
import Derived.Test.YtjhdgpboofcelaaGreatE1
import Derived.Maps.AppendAt
namespace Go.Proofs.YtjhdgpboofcelaaGreat
open Go.RowKit

/-- The row g holds n labels, all of M. -/
def RowOf (g n : Nat) (M : List BLab) (w : World) : Prop := ∃ dk : Array BLab, Sort.HoldsK encB 2 w g 0 dk ∧ dk.size = n ∧ ∀ x ∈ dk.toList, x ∈ M
/-- What a step of the sort leaves. -/
def Srt (g n : Nat) (M : List BLab) (w w' : World) : Prop := w.grownBy w' (some g) ∧ RowOf g n M w'
theorem Srt.trans {g n : Nat} {M : List BLab} {a b c : World} (h : Srt g n M a b) (k : Srt g n M b c) : Srt g n M a c := ⟨h.1.trans k.1, k.2⟩
theorem Srt.refl {g n : Nat} {M : List BLab} {w : World} (h : RowOf g n M w) : Srt g n M w w := ⟨World.grownBy.refl w _, h⟩
theorem RowOf.below {g n : Nat} {M : List BLab} {w w' : World} (h : RowOf g n M w) (hb : Below w.heap.size w w') (hg : g < w.heap.size) : RowOf g n M w' := by
  obtain ⟨dk, h1, h2, h3⟩ := h
  refine ⟨dk, fun j hj => ?_, h2, h3⟩
  have hk := hb.block g hg
  obtain ⟨h4, h5⟩ := h1 j hj
  exact ⟨(World.cell?_of_block (by exact hk)).trans h4, (World.frozen?_of_block (by exact hk)).trans h5⟩
theorem Srt.below {g n : Nat} {M : List BLab} {w w1 w2 : World} (h : Srt g n M w w1) (hb : Below w1.heap.size w1 w2) (hg : g < w1.heap.size) : Srt g n M w w2 :=
  h.trans ⟨⟨hb.os, hb.tape, hb.output, hb.size, fun k hk _ => hb.block k hk⟩, h.2.below hb hg⟩
theorem Srt.size {g n : Nat} {M : List BLab} {w w1 : World} (h : Srt g n M w w1) : w.heap.size ≤ w1.heap.size := h.1.size
theorem Srt.of_sortW {g n : Nat} {M : List BLab} {w : World} (d dk : Array BLab) (k : Nat) (os : Array Obj) (hg : g < w.heap.size) (hH : Sort.HoldsK encB 2 w g 0 d) (hn : d.size = n) (hs : dk.size = d.size) (hm : ∀ x ∈ dk.toList, x ∈ M) : Srt g n M w (sortWorldK encB 2 w g 0 k dk os) :=
  ⟨grown_sortW w g k dk os hg, dk, holdsK_sortWorldK_c encB _ _ _ _ d dk k os hH hg hs, by omega, hm⟩
theorem swp_mem (d : Array BLab) (i j : Nat) (hi : i < d.size) (hj : j < d.size) (x : BLab) (h : x ∈ (Sort.swp d i j).toList) : x ∈ d.toList := by
  unfold Sort.swp at h
  rw [getElem!_pos d i hi, getElem!_pos d j hj] at h
  rw [Array.toList_setIfInBounds, Array.toList_setIfInBounds] at h
  rcases List.mem_or_eq_of_mem_set h with h | h
  · rcases List.mem_or_eq_of_mem_set h with h | h
    · exact h
    · rw [h]; simp
  · rw [h]; simp
/-- Two labels of the row, exchanged. -/
theorem swap_world (w : World) (g n : Nat) (M : List BLab) (dk : Array BLab) (hg : g < w.heap.size) (hH : Sort.HoldsK encB 2 w g 0 dk) (hn : dk.size = n) (hm : ∀ x ∈ dk.toList, x ∈ M) (i j : Nat) (hi : i < n) (hj : j < n) :
    Srt g n M w (((((w.drew).setCell ⟨g, i * 2, none⟩ (.string dk[j]!.1)).setCell ⟨g, i * 2 + 1, none⟩ (.string dk[j]!.2)).setCell ⟨g, j * 2, none⟩ (.string dk[i]!.1)).setCell ⟨g, j * 2 + 1, none⟩ (.string dk[i]!.2)) := by
  have e0 : sortWorldK encB 2 w g 0 0 dk #[] = w := by unfold sortWorldK; rw [Sort.grow_empty]; exact Sort.putRowK_self encB 2 w g 0 dk hH
  have e := sortWorldK_swp_c encB 2 w g 0 (fun _ => rfl) 0 dk #[] hg i j (by omega) (by omega)
  rw [e0, Nat.zero_add, Nat.zero_add] at e
  have e2 : ((w.drew.setCells g (i * 2) (encB dk[j]!)).setCells g (j * 2) (encB dk[i]!)) = (((((w.drew).setCell ⟨g, i * 2, none⟩ (.string dk[j]!.1)).setCell ⟨g, i * 2 + 1, none⟩ (.string dk[j]!.2)).setCell ⟨g, j * 2, none⟩ (.string dk[i]!.1)).setCell ⟨g, j * 2 + 1, none⟩ (.string dk[i]!.2)) := rfl
  rw [← e2, e]
  exact Srt.of_sortW dk _ _ _ hg hH hn (by rw [Sort.swp_size]) (fun x hx => hm x (swp_mem dk i j (by omega) (by omega) x hx))
theorem row_cells {w : World} {g : Nat} {dk : Array BLab} (hH : Sort.HoldsK encB 2 w g 0 dk) (i : Nat) (hi : i < dk.size) :
    w.cell? ⟨g, i * 2, none⟩ = some (.string dk[i]!.1) ∧ w.cell? ⟨g, i * 2 + 1, none⟩ = some (.string dk[i]!.2) ∧ w.frozen? ⟨g, i * 2, none⟩ = false ∧ w.frozen? ⟨g, i * 2 + 1, none⟩ = false := by
  have h1 := Sort.HoldsK.cell hH hi (c := 0) (by omega)
  have h2 := Sort.HoldsK.cell hH hi (c := 1) (by omega)
  rw [Nat.zero_add] at h1 h2
  exact ⟨by simpa [encB] using h1.1, by simpa [encB] using h2.1, by simpa using h1.2, by simpa using h2.2⟩
abbrev LSl (g n cap : Nat) : Value := .slice (some ⟨g, 0, none⟩) n cap
abbrev CfV : Value := .func (.func 29) #[] #[]
set_option maxRecDepth 100000 in
set_option maxHeartbeats 1000000 in
theorem swapRange_any (g n cap a b k : Nat) (M : List BLab) (w : World) (hg : g < w.heap.size) (hR : RowOf g n M w) (ha : a + k ≤ n) (hb : b + k ≤ n) (hab : a < b) (hn : n ≤ 1000000) :
    Calls Tryz.prog 78 #[LSl g n cap, .int .i64 a, .int .i64 b, .int .i64 k, CfV] w fun e w' => e = .returned (.tuple #[]) ∧ Srt g n M w w' := by
  have mixed : Tryz.prog.follows .mixedOrders = true := by kernel_rfl
  go_enter Tryz.func78, Tryz.ntmps78
  go_wp2
  go_loopw [10] (fun i wr => ∃ t : Nat, t ≤ k ∧ i = .int .i64 t ∧ Srt g n M w wr)
    (fun i _ => k - (intOf i).toNat)
  case atStart => exact ⟨0, by omega, rfl, Srt.refl hR⟩
  case round =>
    obtain ⟨t, ht, rfl, hS⟩ := hrel
    have hgw : g < wr.heap.size := Nat.lt_of_lt_of_le hg hS.size
    by_cases htk : t < k
    · have htk' : (t : Int) < k := by omega
      obtain ⟨dk, hH, hdn, hm⟩ := hS.2
      obtain ⟨i, hi⟩ : ∃ i, i = a + t := ⟨_, rfl⟩
      obtain ⟨j, hj⟩ : ∃ j, j = b + t := ⟨_, rfl⟩
      have hin : i < n := by omega
      have hjn : j < n := by omega
      obtain ⟨c0, c1, f0, f1⟩ := row_cells hH i (by omega)
      obtain ⟨d0, d1, g0, g1⟩ := row_cells hH j (by omega)
      have hsw := swap_world wr g n M dk hgw hH hdn hm i j hin hjn
      have HSW := Lib.hid hsw
      clear hsw hm hH
      generalize dk[i]! = x at *
      generalize dk[j]! = y at *
      have i1 : ((a : Int) + t) < n := by omega
      have i2 : ((b : Int) + t) < n := by omega
      have j1 : ((a : Int) + t).toNat = i := by omega
      have j2 : ((b : Int) + t).toNat = j := by omega
      have p1 : (0 : Int) ≤ (a : Int) + t := by omega
      have p2 : (0 : Int) ≤ (b : Int) + t := by omega
      have n1 : ¬ j = i := by omega
      have n2 : ¬ i = j := by omega
      have n3 : ¬ j * 2 = i * 2 + 1 := by omega
      have n4 : ¬ i * 2 + 1 = j * 2 := by omega
      have n5 : ¬ j * 2 + 1 = i * 2 := by omega
      have n6 : ¬ i * 2 = j * 2 + 1 := by omega
      have HIJ := Lib.hid (And.intro hi hj)
      clear hi hj
      go_wp2
      go_big_region_o
      all_goals go_wp2
      go_roundw
      case rel => exact ⟨t + 1, by omega, by go_num, hS.trans HSW.out⟩
      case measure => simp [intOf]; omega
    · have htk' : ¬ (t : Int) < k := by omega
      go_wp2
      go_end0
      exact ⟨rfl, hS⟩
set_option maxRecDepth 100000 in
set_option maxHeartbeats 1000000 in
theorem rotate_any (g n cap a m b : Nat) (M : List BLab) (w : World) (hg : g < w.heap.size) (hR : RowOf g n M w) (ham : a < m) (hmb : m < b) (hb : b ≤ n) (hn : n ≤ 1000000) :
    Calls Tryz.prog 71 #[LSl g n cap, .int .i64 a, .int .i64 m, .int .i64 b, CfV] w fun e w' => e = .returned (.tuple #[]) ∧ Srt g n M w w' := by
  obtain ⟨i0, hi0⟩ : ∃ i0, i0 = m - a := ⟨_, rfl⟩
  obtain ⟨j0, hj0⟩ : ∃ j0, j0 = b - m := ⟨_, rfl⟩
  have e1 : (m : Int) - a = i0 := by omega
  have e2 : (b : Int) - m = j0 := by omega
  have HI := Lib.hid (And.intro hi0 hj0)
  clear hi0 hj0
  go_enter Tryz.func71, Tryz.ntmps71
  go_wp2
  go_loopw [10, 11] (fun i j wr => ∃ p q : Nat, i = .int .i64 p ∧ j = .int .i64 q ∧ 1 ≤ p ∧ 1 ≤ q ∧ p ≤ i0 ∧ q ≤ j0 ∧ Srt g n M w wr)
    (fun i j _ => (intOf i).toNat + (intOf j).toNat)
  case atStart => exact ⟨i0, j0, rfl, rfl, by have := HI.out; omega, by have := HI.out; omega, Nat.le_refl _, Nat.le_refl _, Srt.refl hR⟩
  case round =>
    obtain ⟨p, q, rfl, rfl, hp1, hq1, hp, hq, hS⟩ := hrel
    have hgw : g < wr.heap.size := Nat.lt_of_lt_of_le hg hS.size
    obtain ⟨s, hs⟩ : ∃ s, s = m - p := ⟨_, rfl⟩
    have hpm : p < m + 1 - a := by have := HI.out; omega
    have hqm : m + q ≤ b := by have := HI.out; omega
    have e3 : (m : Int) - p = s := by omega
    by_cases hpq : p = q
    · subst hpq
      have hsw := fun W h1 h2 => swapRange_any g n cap s m p M W h1 h2 (by omega) (by omega) (by omega) hn
      clear hs
      go_wp2_with fail
      refine (hsw wr hgw hS.2).mono ?_
      rintro e w1 ⟨rfl, hS1⟩
      go_wp2_with fail
      go_end0
      exact ⟨rfl, hS.trans hS1⟩
    · have hne : ((p : Int) == q) = false := by simp; omega
      by_cases hlt : q < p
      · have hlt' : (q : Int) < p := by omega
        obtain ⟨r, hr⟩ : ∃ r, r = p - q := ⟨_, rfl⟩
        have e4 : (p : Int) - q = r := by omega
        have hsw := fun W h1 h2 => swapRange_any g n cap s m q M W h1 h2 (by omega) (by omega) (by omega) hn
        have HR := Lib.hid hr
        clear hs hr hpq
        go_wp2_with fail
        refine (hsw wr hgw hS.2).mono ?_
        rintro e w1 ⟨rfl, hS1⟩
        go_wp2_with fail
        go_roundw
        case rel => exact ⟨r, q, rfl, rfl, by have := HR.out; omega, hq1, by have := HR.out; omega, hq, hS.trans hS1⟩
        case measure => have := HR.out; simp [intOf]; omega
      · have hlt' : ¬ (q : Int) < p := by omega
        obtain ⟨r, hr⟩ : ∃ r, r = q - p := ⟨_, rfl⟩
        obtain ⟨u, hu⟩ : ∃ u, u = m + q - p := ⟨_, rfl⟩
        have e4 : (q : Int) - p = r := by omega
        have e5 : (m : Int) + q - p = u := by omega
        have hsw := fun W h1 h2 => swapRange_any g n cap s u p M W h1 h2 (by omega) (by omega) (by omega) hn
        have HR := Lib.hid hr
        have HPQ := Lib.hid hpq
        clear hs hr hpq hu
        go_wp2_with fail
        refine (hsw wr hgw hS.2).mono ?_
        rintro e w1 ⟨rfl, hS1⟩
        go_wp2_with fail
        go_roundw
        case rel => exact ⟨p, r, rfl, rfl, hp1, by have := HR.out; have := HPQ.out; omega, hp, by have := HR.out; omega, hS.trans hS1⟩
        case measure => have := HR.out; have := HPQ.out; simp [intOf]; omega
end Go.Proofs.YtjhdgpboofcelaaGreat
