/- The references' Rank, Total, Select. -/
import Derived.Test.YtnoemopaplopdaaK3
namespace Go.Proofs.Ytnoemopaplopdaa
open Go.RowKit Go.Maps

theorem rankH_no {f : Int} {L : List (Int × Nat)} (h : rightL f L = false) (v : Nat) : rankH f L v = 0 := by
  unfold rankH sumsL
  rw [h]
  rfl
theorem sumP_snoc (P : Int → Bool) (L : List (Int × Nat)) (k : Nat) (h : k < L.length) : sumP P (L.take (k + 1)) = sumP P (L.take k) + if P L[k].1 then L[k].2 else 0 := by
  rw [List.take_succ_eq_append_getElem h, sumP_append]
  simp [sumP]
set_option maxRecDepth 100000 in
set_option maxHeartbeats 1000000 in
theorem rrank_any (f : Int) (x : Nat) (v : Value) (L : List (Int × Nat)) (w : World) (hL : BinsAt w.heap.size w v L) (hx : x < 18446744073709551616) :
    Calls Try.prog 34 #[HistV f v, .int .u64 x] w fun e w' => e = .returned (.int .u64 (rankH f L x : Nat)) ∧ Below w.heap.size w w' := by
  have hR := fun W hb => rright_any f v L W (hL.at_ hb)
  have hbk := fun W => rbucket_any f x W hx
  obtain ⟨p, cap, rfl, hl2, hp⟩ := hL.form
  have h1 := hL.1
  cases hr : rightL f L
  · rw [hr] at hR
    rw [rankH_no hr]
    by_cases hl0 : L.length = 0
    · have hl1 : (L.length : Int) = 0 := by omega
      go_enter Try.func34, Try.ntmps34
      go_wp2
      refine wp_loop_rounds 1 ?_
      rw [rounds_succ]
      go_wp2
      go_ret
      exact ⟨rfl, (by repeat (first | exact Below.refl _ _ | assumption | (refine Below.setCell ?_ (by (first | omega | (simp; done) | (simp; omega) | (simp at *; omega))) _) | (refine Below.alloc ?_ (by (first | omega | (simp; done) | (simp; omega) | (simp at *; omega))) _) | (refine Below.drew ?_) | (refine Gr.into _ ?_ (by (first | omega | (simp; done) | (simp; omega) | (simp at *; omega))))))⟩
    · have hl1 : (0 : Int) < L.length := by omega
      go_enter Try.func34, Try.ntmps34
      go_wp2
      refine wp_loop_rounds 1 ?_
      rw [rounds_succ]
      go_wp2_with fail
      with_reducible refine Calls.mono (Calls.gr0 (hR _ (by repeat (first | exact Below.refl _ _ | assumption | (refine Below.setCell ?_ (by (first | omega | (simp; done) | (simp; omega) | (simp at *; omega))) _) | (refine Below.alloc ?_ (by (first | omega | (simp; done) | (simp; omega) | (simp at *; omega))) _) | (refine Below.drew ?_) | (refine Gr.into _ ?_ (by (first | omega | (simp; done) | (simp; omega) | (simp at *; omega)))))))) ?_
      rintro e w' ⟨rfl, g, rfl⟩
      have hgl := g.le
      try simp only [World.size_alloc] at hgl
      try simp only [World.size_setCell] at hgl
      go_wp2_with fail
      go_ret
      exact ⟨rfl, (by repeat (first | exact Below.refl _ _ | assumption | (refine Below.setCell ?_ (by (first | omega | (simp; done) | (simp; omega) | (simp at *; omega))) _) | (refine Below.alloc ?_ (by (first | omega | (simp; done) | (simp; omega) | (simp at *; omega))) _) | (refine Below.drew ?_) | (refine Gr.into _ ?_ (by (first | omega | (simp; done) | (simp; omega) | (simp at *; omega))))))⟩
  · rw [hr] at hR
    have hrs := rank_sum hr x
    generalize bucketB f x = bk at *
    have HR := Lib.hid hrs
    clear hrs hL
    go_enter Try.func34, Try.ntmps34
    go_wp2
    refine wp_named (fun V hV => ?_)
    have hBV : Below w.heap.size w V := by rw [hV]; exact (by repeat (first | exact Below.refl _ _ | assumption | (refine Below.setCell ?_ (by (first | omega | (simp; done) | (simp; omega) | (simp at *; omega))) _) | (refine Below.alloc ?_ (by (first | omega | (simp; done) | (simp; omega) | (simp at *; omega))) _) | (refine Below.drew ?_) | (refine Gr.into _ ?_ (by (first | omega | (simp; done) | (simp; omega) | (simp at *; omega))))))
    have x0 : RowAt V (w.heap.size) 25 [.int .i64 f, .slice p L.length cap] := by rw [hV]; exact (by repeat (first | assumption | exact RowAt.new_at _ _ _ _ (by (first | omega | (simp; done) | (simp; omega) | (simp at *; omega))) | (refine RowAt.alloc ?_ _) | (refine RowAt.gr ?_ _) | (refine RowAt.setOther ?_ _ _ (by (first | omega | (simp; done) | (simp; omega) | (simp at *; omega)))) | (refine RowAt.drew ?_)))
    clear hV
    obtain ⟨x0c0, x0c1, x0f0, x0f1, x0l⟩ := x0.two
    have hVs := hBV.size
    go_loopw [5, 6] (fun nn i wr => ∃ k : Nat, k ≤ L.length ∧ i = .int .i64 k ∧ nn = .int .u64 (min (sumP (fun a => decide (a ≤ (bk : Int))) (L.take k)) maxU : Nat) ∧ Below V.heap.size V wr)
      (fun _ i _ => L.length - (intOf i).toNat)
    case atStart => exact ⟨0, by omega, rfl, by simp [sumP], Below.refl _ _⟩
    case round =>
      obtain ⟨k, hk, rfl, rfl, hBv⟩ := hrel
      have hB : Below w.heap.size w wr := hBV.trans (hBv.mono hVs)
      have x2 := x0.below hBv x0l
      obtain ⟨x2c0, x2c1, -, -, x2l⟩ := x2.two
      have hBs := hBv.size
      have hBs2 := hB.size
      by_cases hlk : k < L.length
      · have hki : (k : Int) < L.length := by omega
        obtain ⟨a, off, rfl, ha, hc⟩ := hp (by rintro rfl; simp at hlk)
        obtain ⟨hc0, hc1⟩ := hc k hlk
        rw [← hB.cell (p := ⟨a, off + k * 2, none⟩) ha] at hc0
        rw [← hB.cell (p := ⟨a, off + k * 2 + 1, none⟩) ha] at hc1
        have hal : a < wr.heap.size := by omega
        have hin := h1 _ (List.getElem_mem hlk)
        have hsn := sumP_snoc (fun a => decide (a ≤ (bk : Int))) L k hlk
        rcases hLk : L[k] with ⟨q, m⟩
        rw [hLk] at hc0 hc1 hsn hin
        generalize sumP (fun a => decide (a ≤ (bk : Int))) (L.take k) = s0 at *
        clear hc hp
        have hs0 : min s0 maxU ≤ maxU := Nat.min_le_right _ _
        have HS := Lib.hid hsn
        clear hsn
        by_cases hq : q ≤ (bk : Int)
        · have hplus : ∀ W, Calls Try.prog 26 #[.int .u64 (min s0 maxU : Nat), .int .u64 m] W fun e w' => e = .returned (.int .u64 (min (sumP (fun a => decide (a ≤ (bk : Int))) (L.take (k + 1))) maxU : Nat)) ∧ Below W.heap.size W w' := fun W => by
            have := plus_any (min s0 maxU) m W hs0 (by unfold maxU; omega)
            have e : satU (min s0 maxU) m = min (sumP (fun a => decide (a ≤ (bk : Int))) (L.take (k + 1))) maxU := by
              rw [HS.out, if_pos (decide_eq_true hq)]; unfold satU; omega
            rwa [e] at this
          generalize min s0 maxU = s1 at *
          go_wp2_with fail
          with_reducible refine Calls.mono (Calls.gr0 (hR _ hB)) ?_
          rintro e w' ⟨rfl, g, rfl⟩
          have hgl := g.le
          try simp only [World.size_alloc] at hgl
          try simp only [World.size_setCell] at hgl
          go_wp2_with fail
          refine wp_region_gr' (by kernel_rfl) (by kernel_rfl) ?_
          repeat (go_big_quiet_step (first | (go_at_call 18; exact Calls.gr (hbk _))))
          refine wpQuiet_nil ?_
          intro g2
          go_wp2_with fail
          with_reducible refine Calls.mono (Calls.gr (hplus _)) ?_
          rintro e w' ⟨rfl, g, rfl⟩
          have hgl := g.le
          try simp only [World.size_alloc] at hgl
          try simp only [World.size_setCell] at hgl
          go_wp2_with fail
          go_roundw
          case rel => exact ⟨k + 1, by omega, by go_num, rfl, hBv.trans (g.below.mono hBs)⟩
          case measure => simp [intOf]; omega
        · have hq2 : (bk : Int) < q := by omega
          have hsame : min s0 maxU = min (sumP (fun a => decide (a ≤ (bk : Int))) (L.take (k + 1))) maxU := by
            rw [HS.out, if_neg (by simpa using hq2)]; rfl
          have HM := Lib.hid hsame
          clear hsame
          generalize min s0 maxU = s1 at *
          go_wp2_with fail
          with_reducible refine Calls.mono (Calls.gr0 (hR _ hB)) ?_
          rintro e w' ⟨rfl, g, rfl⟩
          have hgl := g.le
          try simp only [World.size_alloc] at hgl
          try simp only [World.size_setCell] at hgl
          go_wp2_with fail
          refine wp_region_gr' (by kernel_rfl) (by kernel_rfl) ?_
          repeat (go_big_quiet_step (first | (go_at_call 18; exact Calls.gr (hbk _))))
          refine wpQuiet_nil ?_
          intro g2
          go_wp2
          go_roundw
          case rel => exact ⟨k + 1, by omega, by go_num, by rw [HM.out], hBv.trans (g2.below.mono hBs)⟩
          case measure => simp [intOf]; omega
      · obtain rfl : k = L.length := by omega
        have hres := HR.out
        rw [List.take_length]
        generalize min (sumP (fun a => decide (a ≤ (bk : Int))) L) maxU = s1 at *
        go_wp2
        go_ret
        exact ⟨by rw [hres]; rfl, hB⟩
theorem rtotal_any (f : Int) (v : Value) (L : List (Int × Nat)) (w : World) (hL : BinsAt w.heap.size w v L) :
    Calls Try.prog 33 #[HistV f v] w fun e w' => e = .returned (.int .u64 (totalH f L : Nat)) ∧ Below w.heap.size w w' := by
  have hR : ∀ W, Below w.heap.size w W → Calls Try.prog 34 #[HistV f v, .int .u64 18446744073709551615] W fun e w' => e = .returned (.int .u64 (totalH f L : Nat)) ∧ Below W.heap.size W w' := fun W hb => rrank_any f 18446744073709551615 v L W (hL.at_ hb) (by decide)
  go_enter Try.func33, Try.ntmps33
  go_wp2_with fail
  with_reducible refine Calls.mono (Calls.gr0 (hR _ (by repeat (first | exact Below.refl _ _ | assumption | (refine Below.setCell ?_ (by (first | omega | (simp; done) | (simp; omega) | (simp at *; omega))) _) | (refine Below.alloc ?_ (by (first | omega | (simp; done) | (simp; omega) | (simp at *; omega))) _) | (refine Below.drew ?_) | (refine Gr.into _ ?_ (by (first | omega | (simp; done) | (simp; omega) | (simp at *; omega)))))))) ?_
  rintro e w' ⟨rfl, g, rfl⟩
  have hgl := g.le
  try simp only [World.size_alloc] at hgl
  try simp only [World.size_setCell] at hgl
  go_wp2_with fail
  go_ret
  exact ⟨rfl, (by repeat (first | exact Below.refl _ _ | assumption | (refine Below.setCell ?_ (by (first | omega | (simp; done) | (simp; omega) | (simp at *; omega))) _) | (refine Below.alloc ?_ (by (first | omega | (simp; done) | (simp; omega) | (simp at *; omega))) _) | (refine Below.drew ?_) | (refine Gr.into _ ?_ (by (first | omega | (simp; done) | (simp; omega) | (simp at *; omega))))))⟩
end Go.Proofs.Ytnoemopaplopdaa
