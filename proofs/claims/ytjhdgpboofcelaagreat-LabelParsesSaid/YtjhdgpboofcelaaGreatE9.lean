/- The references: Less, Same. -/
import Derived.Test.YtjhdgpboofcelaaGreatE8
namespace Go.Proofs.YtjhdgpboofcelaaGreat
open Go.RowKit

theorem bytes_ext {x y : ByteArray} (h : x.toList = y.toList) : x = y := by
  rw [Lib.toList_data, Lib.toList_data] at h
  exact ByteArray.ext (Array.toList_inj.1 h)
theorem lab_ne {a b c d : ByteArray} (h : (a, b) ≠ (c, d)) : (!(a.toList == c.toList && b.toList == d.toList)) = true := by
  cases hq : (a.toList == c.toList && b.toList == d.toList)
  · rfl
  · simp only [Bool.and_eq_true, beq_iff_eq] at hq
    exact absurd (by rw [bytes_ext hq.1, bytes_ext hq.2]) h
set_option maxRecDepth 100000 in
set_option maxHeartbeats 1000000 in
theorem rsame_any (v u : Value) (L K : List BLab) (w : World) (hL : LabelsAt w.heap.size w v L) (hK : LabelsAt w.heap.size w u K) :
    Calls Tryz.prog 16 #[v, u] w fun e w' => e = .returned (.bool (decide (L = K))) ∧ Below w.heap.size w w' := by
  obtain ⟨n1, p, cp, rfl, hp⟩ := hL.form
  obtain ⟨n2, q, cq, rfl, hq⟩ := hK.form
  by_cases hlen : L.length = K.length
  · rw [← hlen]
    have hlen2 := hlen
    have HL := Lib.hid hlen
    clear hlen hlen2 hL hK
    go_enter Tryz.func16, Tryz.ntmps16
    go_wp2
    go_loopw [5] (fun i wr => ∃ k : Nat, k ≤ L.length ∧ i = .int .i64 k ∧ L.take k = K.take k ∧ Below w.heap.size w wr)
      (fun i _ => L.length - (intOf i).toNat)
    case atStart => exact ⟨0, by omega, rfl, by simp, Below.refl _ _⟩
    case round =>
      obtain ⟨k, hk, rfl, hT, hB⟩ := hrel
      have hBs := hB.size
      by_cases hlk : k < L.length
      · have hlk2 : k < K.length := by have := HL.out; omega
        have hki : (k : Int) < L.length := by omega
        obtain ⟨a, off, rfl, ha, -, hc⟩ := hp (by rintro rfl; simp at hlk)
        obtain ⟨b, off2, rfl, hb, -, hd⟩ := hq (by rintro rfl; simp at hlk2)
        obtain ⟨hc0, hc1⟩ := hc k hlk
        obtain ⟨hd0, hd1⟩ := hd k hlk2
        rw [← hB.cell (p := ⟨a, off + k * 2, none⟩) ha] at hc0
        rw [← hB.cell (p := ⟨a, off + k * 2 + 1, none⟩) ha] at hc1
        rw [← hB.cell (p := ⟨b, off2 + k * 2, none⟩) hb] at hd0
        rw [← hB.cell (p := ⟨b, off2 + k * 2 + 1, none⟩) hb] at hd1
        have hal : a < wr.heap.size := by omega
        have hbl : b < wr.heap.size := by omega
        have hs1 : L.take (k + 1) = L.take k ++ [L[k]] := List.take_succ_eq_append_getElem hlk
        have hs2 : K.take (k + 1) = K.take k ++ [K[k]] := List.take_succ_eq_append_getElem hlk2
        have hne : L[k] ≠ K[k] → decide (L = K) = false := fun h => decide_eq_false (by rintro rfl; exact h rfl)
        rcases hLk : L[k] with ⟨x1, x2⟩
        rcases hKk : K[k] with ⟨y1, y2⟩
        rw [hLk] at hc0 hc1 hs1 hne
        rw [hKk] at hd0 hd1 hs2 hne
        have H1 := Lib.hid hs1
        have H2 := Lib.hid hs2
        clear hs1 hs2 hc hd hp hq hLk hKk
        by_cases h1 : (x1, x2) = (y1, y2)
        · obtain ⟨rfl, rfl⟩ := Prod.mk.inj h1
          have hneq : ∀ W, Sem.run Tryz.prog (binOp .neq 41 (.agg #[.string x1, .string x2]) (.agg #[.string x1, .string x2])) W = .ok (.bool false) W := fun W => by
            rw [neq_label]; simp
          clear hne h1
          go_wp2
          refine wp_region_gr (by kernel_rfl) (by kernel_rfl) ?_
          repeat (go_big_quiet_step (first | fail))
          refine wpQuiet_nil ?_
          intro g
          have hgl := g.le
          go_wp2
          go_roundw
          case rel => exact ⟨k + 1, by omega, by go_num, by rw [H1.out, H2.out, hT], hB.trans (g.below.mono hBs)⟩
          case measure => simp [intOf]; omega
        · have h3 := hne h1
          have hneq : ∀ W, Sem.run Tryz.prog (binOp .neq 41 (.agg #[.string x1, .string x2]) (.agg #[.string y1, .string y2])) W = .ok (.bool true) W := fun W => by
            rw [neq_label, lab_ne h1]
          have H3 := Lib.hid h3
          clear hne h1 h3
          go_wp2
          refine wp_region_gr (by kernel_rfl) (by kernel_rfl) ?_
          repeat (go_big_quiet_step (first | fail))
          refine wpQuiet_nil ?_
          intro g
          have hgl := g.le
          go_wp2
          go_ret
          exact ⟨by rw [H3.out]; rfl, hB.trans (g.below.mono hBs)⟩
      · have hki : ¬ (k : Int) < L.length := by omega
        have he : L = K := by
          have := HL.out
          rwa [List.take_of_length_le (by omega), List.take_of_length_le (by omega)] at hT
        have hd : decide (L = K) = true := decide_eq_true he
        have H3 := Lib.hid hd
        clear hp hq hT he hd
        go_wp2
        go_ret
        exact ⟨by rw [H3.out]; rfl, hB⟩
  · have hne : decide (L = K) = false := decide_eq_false (by rintro rfl; exact hlen rfl)
    rw [hne]
    have hli : ¬ (L.length : Int) = K.length := by omega
    clear hL hK hp hq hne hlen
    go_enter Tryz.func16, Tryz.ntmps16
    go_wp2
    go_ret
    exact ⟨rfl, Below.refl _ _⟩
set_option maxRecDepth 100000 in
set_option maxHeartbeats 1000000 in
theorem rless_any (v u : Value) (L K : List BLab) (w : World) (hL : LabelsAt w.heap.size w v L) (hK : LabelsAt w.heap.size w u K) :
    Calls Tryz.prog 25 #[v, u] w fun e w' => e = .returned (.bool (decide (cmpLs L K < 0))) ∧ Below w.heap.size w w' := by
  have hsL := hL.1
  have hsK := hK.1
  obtain ⟨n1, p, cp, rfl, hp⟩ := hL.form
  obtain ⟨n2, q, cq, rfl, hq⟩ := hK.form
  have h0 : cmpLs (L.drop 0) (K.drop 0) = cmpLs L K := rfl
  generalize cmpLs L K = C at *
  clear hL hK
  have H0 := Lib.hid h0
  clear h0
  go_enter Tryz.func25, Tryz.ntmps25
  go_wp2
  go_loopw [5] (fun i wr => ∃ k : Nat, k ≤ L.length ∧ k ≤ K.length ∧ i = .int .i64 k ∧ cmpLs (L.drop k) (K.drop k) = C ∧ Below w.heap.size w wr)
    (fun i _ => L.length - (intOf i).toNat)
  case atStart => exact ⟨0, by omega, by omega, rfl, H0.out, Below.refl _ _⟩
  case round =>
    obtain ⟨k, hk1, hk2, rfl, hC, hB⟩ := hrel
    have hBs := hB.size
    by_cases hkL : k < L.length
    · have hkl : (k : Int) < L.length := by omega
      obtain ⟨a, off, rfl, ha, hcp, hcc⟩ := hp (by rintro rfl; simp at hkL)
      obtain ⟨c0, c1⟩ := hcc k hkL
      rw [← hB.cell (p := ⟨a, off + k * 2, none⟩) ha] at c0
      rw [← hB.cell (p := ⟨a, off + k * 2 + 1, none⟩) ha] at c1
      have hal : a < wr.heap.size := by omega
      by_cases hkK : k < K.length
      · have hkk : (k : Int) < K.length := by omega
        obtain ⟨b, off2, rfl, hb, hcq, hdd⟩ := hq (by rintro rfl; simp at hkK)
        obtain ⟨d0, d1⟩ := hdd k hkK
        rw [← hB.cell (p := ⟨b, off2 + k * 2, none⟩) hb] at d0
        rw [← hB.cell (p := ⟨b, off2 + k * 2 + 1, none⟩) hb] at d1
        have hbl : b < wr.heap.size := by omega
        rw [cmpLs_step L K k hkL hkK] at hC
        have sL := hsL L[k] (List.getElem_mem _)
        have sK := hsK K[k] (List.getElem_mem _)
        unfold cmpL at hC
        rcases hLk : L[k] with ⟨x1, x2⟩
        rcases hKk : K[k] with ⟨y1, y2⟩
        rw [hLk] at c0 c1 hC sL
        rw [hKk] at d0 d1 hC sK
        simp only at hC sL sK
        have hl1 := fun W => least_any x1 y1 W sL.1 sK.1
        have hl2 := fun W => least_any x2 y2 W sL.2 sK.2
        generalize cmpB x1 y1 = r at *
        generalize cmpB x2 y2 = t at *
        clear hcc hdd hp hq hLk hKk sL sK hsL hsK
        by_cases hr : r = 0
        · subst hr
          rw [if_pos rfl] at hC
          by_cases ht : t = 0
          · subst ht
            rw [if_pos rfl] at hC
            have HC := Lib.hid hC
            clear hC
            go_wp2
            refine wp_region_gr (by kernel_rfl) (by kernel_rfl) ?_
            repeat (go_big_quiet_step (first | (go_at_call 45; exact Calls.gr (hl1 _))))
            refine wpQuiet_nil ?_
            intro g
            have hgl := g.le
            go_wp2
            refine wp_region_gr' (by kernel_rfl) (by kernel_rfl) ?_
            repeat (go_big_quiet_step (first | (go_at_call 45; exact Calls.gr (hl2 _))))
            refine wpQuiet_nil ?_
            intro g2
            have hgl2 := g2.le
            go_wp2
            go_roundw
            case rel => exact ⟨k + 1, by omega, by omega, by go_num, HC.out, hB.trans (g2.below.mono hBs)⟩
            case measure => simp [intOf]; omega
          · rw [if_neg ht] at hC
            subst hC
            go_wp2
            refine wp_region_gr (by kernel_rfl) (by kernel_rfl) ?_
            repeat (go_big_quiet_step (first | (go_at_call 45; exact Calls.gr (hl1 _))))
            refine wpQuiet_nil ?_
            intro g
            have hgl := g.le
            go_wp2
            refine wp_region_gr' (by kernel_rfl) (by kernel_rfl) ?_
            repeat (go_big_quiet_step (first | (go_at_call 45; exact Calls.gr (hl2 _))))
            refine wpQuiet_nil ?_
            intro g2
            have hgl2 := g2.le
            go_wp2
            go_ret
            exact ⟨by simp, hB.trans (g2.below.mono hBs)⟩
        · rw [if_neg hr, if_neg hr] at hC
          subst hC
          go_wp2
          refine wp_region_gr (by kernel_rfl) (by kernel_rfl) ?_
          repeat (go_big_quiet_step (first | (go_at_call 45; exact Calls.gr (hl1 _))))
          refine wpQuiet_nil ?_
          intro g
          have hgl := g.le
          go_wp2
          go_ret
          exact ⟨by simp, hB.trans (g.below.mono hBs)⟩
      · have hkk : ¬ (k : Int) < K.length := by omega
        have hC1 : C = 1 := by
          rw [← hC, List.drop_eq_getElem_cons hkL, List.drop_eq_nil_of_le (show K.length ≤ k by omega)]
          rfl
        subst hC1
        have h3 : ¬ (L.length : Int) < K.length := by omega
        clear hcc hp hq hC
        go_wp2
        go_ret
        exact ⟨rfl, hB⟩
    · have hkl : ¬ (k : Int) < L.length := by omega
      by_cases hlt : (L.length : Int) < K.length
      · have hC1 : C = -1 := by
          rw [← hC, List.drop_eq_nil_of_le (show L.length ≤ k by omega), List.drop_eq_getElem_cons (show k < K.length by omega)]
          rfl
        subst hC1
        clear hp hq hC
        go_wp2
        go_ret
        exact ⟨rfl, hB⟩
      · have hC1 : C = 0 := by
          rw [← hC, List.drop_eq_nil_of_le (show L.length ≤ k by omega), List.drop_eq_nil_of_le (show K.length ≤ k by omega)]
          rfl
        subst hC1
        clear hp hq hC
        go_wp2
        go_ret
        exact ⟨rfl, hB⟩
end Go.Proofs.YtjhdgpboofcelaaGreat
