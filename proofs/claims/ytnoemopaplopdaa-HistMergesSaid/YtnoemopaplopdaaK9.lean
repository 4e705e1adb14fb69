/- The references' Select. -/
import Derived.Test.YtnoemopaplopdaaK8
namespace Go.Proofs.Ytnoemopaplopdaa
open Go.RowKit Go.Maps

theorem selectB_no {f : Int} {L : List (Int × Nat)} (h : rightL f L = false) (q : Nat) : selectB f L q = none := by
  unfold selectB sumsL
  rw [h]
  rfl
set_option maxRecDepth 100000 in
set_option maxHeartbeats 1000000 in
theorem rselect_any (f : Int) (x : Nat) (v : Value) (L : List (Int × Nat)) (w : World) (hL : BinsAt w.heap.size w v L) (hx : x < 18446744073709551616) :
    Calls Try.prog 32 #[HistV f v, .int .u64 x] w fun e w' => e = bndRes (selectB f L x) ∧ Below w.heap.size w w' := by
  have hR := fun W hb => rright_any f v L W (hL.at_ hb)
  obtain ⟨p, cap, rfl, hl2, hp⟩ := hL.form
  have h1 := hL.1
  cases hr : rightL f L
  · rw [hr] at hR
    rw [selectB_no hr, bndRes_none]
    by_cases hl0 : L.length = 0
    · have hl1 : (L.length : Int) = 0 := by omega
      go_enter Try.func32, Try.ntmps32
      go_wp2
      refine wp_loop_rounds 1 ?_
      rw [rounds_succ]
      go_wp2
      exact bodyPost_ret (v := .tuple #[.int .u64 0, .int .u64 0, .bool false]) (by simp [results, Try.results32, go_sem]) rfl ⟨rfl, (by repeat (first | exact Below.refl _ _ | assumption | (refine Below.setCell ?_ (by (first | omega | (simp; done) | (simp; omega) | (simp at *; omega))) _) | (refine Below.alloc ?_ (by (first | omega | (simp; done) | (simp; omega) | (simp at *; omega))) _) | (refine Below.drew ?_) | (refine Gr.into _ ?_ (by (first | omega | (simp; done) | (simp; omega) | (simp at *; omega))))))⟩
    · have hl1 : (0 : Int) < L.length := by omega
      go_enter Try.func32, Try.ntmps32
      go_wp2
      refine wp_loop_rounds 1 ?_
      rw [rounds_succ]
      go_wp2_with fail
      with_reducible refine Calls.mono (Calls.gr0 (hR _ (by repeat (first | exact Below.refl _ _ | assumption | (refine Below.setCell ?_ (by (first | omega | (simp; done) | (simp; omega) | (simp at *; omega))) _) | (refine Below.alloc ?_ (by (first | omega | (simp; done) | (simp; omega) | (simp at *; omega))) _) | (refine Below.drew ?_) | (refine Gr.into _ ?_ (by (first | omega | (simp; done) | (simp; omega) | (simp at *; omega)))))))) ?_
      rintro e w' ⟨rfl, g, rfl⟩
      have hgl := g.le
      try simp only [World.size_alloc] at hgl
      try simp only [World.size_setCell] at hgl
      go_wp2_with fail
      exact bodyPost_ret (v := .tuple #[.int .u64 0, .int .u64 0, .bool false]) (by simp [results, Try.results32, go_sem]) rfl ⟨rfl, (by repeat (first | exact Below.refl _ _ | assumption | (refine Below.setCell ?_ (by (first | omega | (simp; done) | (simp; omega) | (simp at *; omega))) _) | (refine Below.alloc ?_ (by (first | omega | (simp; done) | (simp; omega) | (simp at *; omega))) _) | (refine Below.drew ?_) | (refine Gr.into _ ?_ (by (first | omega | (simp; done) | (simp; omega) | (simp at *; omega))))))⟩
  · rw [hr] at hR
    have hsel : selectB f L x = (selTo x (sumsFrom 0 L)).bind fun y => boundsB f y.1.1 := by unfold selectB sumsL; rw [if_pos hr]
    rw [hsel]
    clear hsel hL
    go_enter Try.func32, Try.ntmps32
    go_wp2
    refine wp_named (fun V hV => ?_)
    have hBV : Below w.heap.size w V := by rw [hV]; exact (by repeat (first | exact Below.refl _ _ | assumption | (refine Below.setCell ?_ (by (first | omega | (simp; done) | (simp; omega) | (simp at *; omega))) _) | (refine Below.alloc ?_ (by (first | omega | (simp; done) | (simp; omega) | (simp at *; omega))) _) | (refine Below.drew ?_) | (refine Gr.into _ ?_ (by (first | omega | (simp; done) | (simp; omega) | (simp at *; omega))))))
    have x0 : RowAt V (w.heap.size) 25 [.int .i64 f, .slice p L.length cap] := by rw [hV]; exact (by repeat (first | assumption | exact RowAt.new_at _ _ _ _ (by (first | omega | (simp; done) | (simp; omega) | (simp at *; omega))) | (refine RowAt.alloc ?_ _) | (refine RowAt.gr ?_ _) | (refine RowAt.setOther ?_ _ _ (by (first | omega | (simp; done) | (simp; omega) | (simp at *; omega)))) | (refine RowAt.drew ?_)))
    clear hV
    obtain ⟨x0c0, x0c1, x0f0, x0f1, x0l⟩ := x0.two
    have hVs := hBV.size
    go_loopw [7, 8] (fun nn i wr => ∃ k s : Nat, k ≤ L.length ∧ i = .int .i64 k ∧ nn = .int .u64 s ∧ s ≤ maxU ∧ selTo x (sumsFrom 0 L) = selTo x (sumsFrom s (L.drop k)) ∧ Below V.heap.size V wr)
      (fun _ i _ => L.length - (intOf i).toNat)
    case atStart => exact ⟨0, 0, by omega, rfl, rfl, by omega, by simp, Below.refl _ _⟩
    case round =>
      obtain ⟨k, s, hk, rfl, rfl, hs, hsl, hBv⟩ := hrel
      have hB : Below w.heap.size w wr := hBv.mono hVs |> hBV.trans
      have x2 := x0.below hBv x0l
      obtain ⟨x2c0, x2c1, -, -, x2l⟩ := x2.two
      have hBs := hBv.size
      have hBs2 := hB.size
      by_cases hlk : k < L.length
      · have hki : (k : Int) < L.length := by omega
        obtain ⟨a, off, rfl, ha, hc⟩ := hp (by rintro rfl; simp at hlk)
        obtain ⟨hc0, hc1⟩ := hc k hlk
        rw [← hB.cell (p := ⟨a, off + k * 2, none⟩) ha] at hc0
        rw [← hB.cell (p := ⟨a, off + k * 2 + 1, none⟩) ha] at hc1
        have hal : a < wr.heap.size := by omega
        have hin := h1 _ (List.getElem_mem hlk)
        rw [List.drop_eq_getElem_cons hlk] at hsl
        rcases hLk : L[k] with ⟨q, m⟩
        rw [hLk] at hc0 hc1 hsl hin
        simp only [sumsFrom] at hsl
        have hplus := fun W => plus_any s m W hs (by unfold maxU; omega)
        have hs2 : satU s m ≤ maxU := Nat.min_le_right _ _
        clear hc hp
        by_cases hgt : x < satU s m
        · have hfound : selTo x (sumsFrom 0 L) = some ((q, m), satU s m) := by
            rw [hsl]; unfold selTo; rw [List.find?_cons_of_pos (by simpa using hgt)]
          have hfin : bndRes ((selTo x (sumsFrom 0 L)).bind fun y => boundsB f y.1.1) = .returned (.tuple #[.int .u64 (bLo (boundsB f q)), .int .u64 (bHi (boundsB f q)), .bool (boundsB f q).isSome]) := by
            rw [hfound]; exact bndRes_eq _
          have hbc := fun W => rbounds_any f q W
          rw [bndRes_eq] at hbc
          have hgi : (x : Int) < (satU s m : Nat) := by omega
          clear hsl hfound
          generalize bLo (boundsB f q) = lo at *
          generalize bHi (boundsB f q) = hi at *
          generalize (boundsB f q).isSome = ok at *
          have HF := Lib.hid hfin
          clear hfin
          generalize satU s m = s2 at *
          go_wp2_with fail
          with_reducible refine Calls.mono (Calls.gr0 (hR _ hB)) ?_
          rintro e w' ⟨rfl, g, rfl⟩
          have hgl := g.le
          try simp only [World.size_alloc] at hgl
          try simp only [World.size_setCell] at hgl
          go_wp2_with fail
          with_reducible refine Calls.mono (Calls.gr (hplus _)) ?_
          rintro e w' ⟨rfl, g, rfl⟩
          have hgl := g.le
          try simp only [World.size_alloc] at hgl
          try simp only [World.size_setCell] at hgl
          go_wp2_with fail
          refine wp_region_gr' (by kernel_rfl) (by kernel_rfl) ?_
          repeat (go_big_quiet_step (first | (go_at_call 14; exact Calls.gr (hbc _))))
          refine wpQuiet_nil ?_
          intro g2
          go_wp2
          exact bodyPost_ret (v := .tuple #[.int .u64 lo, .int .u64 hi, .bool ok]) (by simp [results, Try.results32, go_sem]) rfl ⟨by rw [HF.out], hB.trans (g2.below.mono hBs2)⟩
        · have hnext : selTo x (sumsFrom 0 L) = selTo x (sumsFrom (satU s m) (L.drop (k + 1))) := by
            rw [hsl]; unfold selTo; rw [List.find?_cons_of_neg (by simpa using hgt)]
          have hgi : ((satU s m : Nat) : Int) ≤ x := by omega
          have HN := Lib.hid hnext
          clear hnext hsl
          generalize satU s m = s2 at *
          go_wp2_with fail
          with_reducible refine Calls.mono (Calls.gr0 (hR _ hB)) ?_
          rintro e w' ⟨rfl, g, rfl⟩
          have hgl := g.le
          try simp only [World.size_alloc] at hgl
          try simp only [World.size_setCell] at hgl
          go_wp2_with fail
          with_reducible refine Calls.mono (Calls.gr (hplus _)) ?_
          rintro e w' ⟨rfl, g, rfl⟩
          have hgl := g.le
          try simp only [World.size_alloc] at hgl
          try simp only [World.size_setCell] at hgl
          go_wp2_with fail
          go_roundw
          case rel => exact ⟨k + 1, s2, by omega, by go_num, rfl, hs2, HN.out, hBv.trans (g.below.mono hBs)⟩
          case measure => simp [intOf]; omega
      · obtain rfl : k = L.length := by omega
        have hnone : selTo x (sumsFrom 0 L) = none := by
          rw [hsl, List.drop_length]; rfl
        have hfin : bndRes ((selTo x (sumsFrom 0 L)).bind fun y => boundsB f y.1.1) = .returned (.tuple #[.int .u64 0, .int .u64 0, .bool false]) := by rw [hnone]; rfl
        have HF := Lib.hid hfin
        clear hsl hnone hfin
        go_wp2
        exact bodyPost_ret (v := .tuple #[.int .u64 0, .int .u64 0, .bool false]) (by simp [results, Try.results32, go_sem]) rfl ⟨by rw [HF.out], hB⟩
end Go.Proofs.Ytnoemopaplopdaa
