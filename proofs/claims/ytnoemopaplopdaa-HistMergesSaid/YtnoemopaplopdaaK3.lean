/- The references' Right. -/
import Derived.Test.YtnoemopaplopdaaK2
namespace Go.Proofs.Ytnoemopaplopdaa
open Go.RowKit Go.Maps

set_option maxRecDepth 100000 in
set_option maxHeartbeats 2000000 in
theorem rright_any (f : Int) (v : Value) (L : List (Int × Nat)) (w : World) (hL : BinsAt w.heap.size w v L) :
    Calls Try.prog 20 #[HistV f v] w fun e w' => e = .returned (.bool (rightL f L)) ∧ Below w.heap.size w w' := by
  obtain ⟨p, cap, rfl, hl2, hp⟩ := hL.form
  have h1 := hL.1
  clear hL
  go_enter Try.func20, Try.ntmps20
  go_wp2
  refine wp_named (fun V hV => ?_)
  have hBV : Below w.heap.size w V := by rw [hV]; exact (by repeat (first | exact Below.refl _ _ | assumption | (refine Below.setCell ?_ (by (first | omega | (simp; done) | (simp; omega) | (simp at *; omega))) _) | (refine Below.alloc ?_ (by (first | omega | (simp; done) | (simp; omega) | (simp at *; omega))) _) | (refine Below.drew ?_) | (refine Gr.into _ ?_ (by (first | omega | (simp; done) | (simp; omega) | (simp at *; omega))))))
  have x : RowAt V (w.heap.size) 25 [.int .i64 f, .slice p L.length cap] := by rw [hV]; exact (by repeat (first | assumption | exact RowAt.new_at _ _ _ _ (by (first | omega | (simp; done) | (simp; omega) | (simp at *; omega))) | (refine RowAt.alloc ?_ _) | (refine RowAt.gr ?_ _) | (refine RowAt.setOther ?_ _ _ (by (first | omega | (simp; done) | (simp; omega) | (simp at *; omega)))) | (refine RowAt.drew ?_)))
  clear hV
  obtain ⟨xc0, xc1, xf0, xf1, xl⟩ := x.two
  have hVs := hBV.size
  go_loopw [3] (fun i wr => ∃ (k : Nat) (z : Int), k ≤ L.length ∧ i = .int .i64 k ∧ rightFrom f (-1) L = rightFrom f z (L.drop k) ∧ ((k = 0 ∧ z = -1) ∨ ∃ j, ∃ h : j < L.length, k = j + 1 ∧ z = L[j].1) ∧ Below w.heap.size w wr ∧ RowAt wr w.heap.size 25 [.int .i64 f, .slice p L.length cap])
    (fun i _ => L.length - (intOf i).toNat)
  case atStart => exact ⟨0, -1, by omega, rfl, by simp, .inl ⟨rfl, rfl⟩, hBV, x⟩
  case round =>
    obtain ⟨k, z, hk, rfl, hr, hz, hB, rx⟩ := hrel
    obtain ⟨xc0, xc1, xf0, xf1, xl⟩ := rx.two
    have hBs := hB.size
    by_cases hlk : k < L.length
    · obtain ⟨a, off, rfl, ha, hc⟩ := hp (by rintro rfl; simp at hlk)
      obtain ⟨hc0, hc1⟩ := hc k hlk
      rw [← hB.cell (p := ⟨a, off + k * 2, none⟩) ha] at hc0
      rw [← hB.cell (p := ⟨a, off + k * 2 + 1, none⟩) ha] at hc1
      have hin := h1 _ (List.getElem_mem hlk)
      have hal : a < wr.heap.size := Nat.lt_of_lt_of_le ha hB.size
      have hki : (k : Int) < L.length := by omega
      rw [List.drop_eq_getElem_cons hlk] at hr
      rcases hLk : L[k] with ⟨q, n⟩
      rw [hLk] at hr hin hc0 hc1
      simp only [rightFrom] at hr
      have HR := Lib.hid hr
      clear hr
      have hno : rightFrom f (-1) L = false → rightL f L = false := fun h => by simp [rightL, h]
      rcases hbd : boundsB f q with _ | ⟨lo, hi⟩
      · have hbc : ∀ W : World, Calls Try.prog 14 #[.int .i64 f, .int .i64 q] W fun e w' => e = .returned (.tuple #[.int .u64 0, .int .u64 0, .bool false]) ∧ Below W.heap.size W w' := fun W => by
          have := rbounds_any f q W; rwa [hbd] at this
        have hres := hno (by rw [HR.out, hbd]; rfl)
        clear hc hp
        go_wp2
        refine wp_region_gr (by kernel_rfl) (by kernel_rfl) ?_
        repeat (go_big_quiet_step (first | (go_at_call 14; exact Calls.gr (hbc _))))
        refine wpQuiet_nil ?_
        intro g
        go_wp2
        refine wp_region_gr' (by kernel_rfl) (by kernel_rfl) ?_
        repeat (go_big_quiet_step (first | fail))
        refine wpQuiet_nil ?_
        intro g2
        go_wp2
        go_ret
        exact ⟨by rw [hres]; rfl, (by repeat (first | exact Below.refl _ _ | assumption | (refine Below.setCell ?_ (by (first | omega | (simp; done) | (simp; omega) | (simp at *; omega))) _) | (refine Below.alloc ?_ (by (first | omega | (simp; done) | (simp; omega) | (simp at *; omega))) _) | (refine Below.drew ?_) | (refine Gr.into _ ?_ (by (first | omega | (simp; done) | (simp; omega) | (simp at *; omega))))))⟩
      · have hbc : ∀ W : World, Calls Try.prog 14 #[.int .i64 f, .int .i64 q] W fun e w' => e = .returned (.tuple #[.int .u64 lo, .int .u64 hi, .bool true]) ∧ Below W.heap.size W w' := fun W => by
          have := rbounds_any f q W; rwa [hbd] at this
        by_cases hn : n = 0
        · have hres := hno (by rw [HR.out, hbd]; simp [hn])
          subst hn
          clear hc hp
          go_wp2
          refine wp_region_gr (by kernel_rfl) (by kernel_rfl) ?_
          repeat (go_big_quiet_step (first | (go_at_call 14; exact Calls.gr (hbc _))))
          refine wpQuiet_nil ?_
          intro g
          go_wp2
          refine wp_region_gr' (by kernel_rfl) (by kernel_rfl) ?_
          repeat (go_big_quiet_step (first | fail))
          refine wpQuiet_nil ?_
          intro g2
          go_wp2
          go_ret
          exact ⟨by rw [hres]; rfl, (by repeat (first | exact Below.refl _ _ | assumption | (refine Below.setCell ?_ (by (first | omega | (simp; done) | (simp; omega) | (simp at *; omega))) _) | (refine Below.alloc ?_ (by (first | omega | (simp; done) | (simp; omega) | (simp at *; omega))) _) | (refine Below.drew ?_) | (refine Gr.into _ ?_ (by (first | omega | (simp; done) | (simp; omega) | (simp at *; omega))))))⟩
        · have hn2 : ((n : Int) == 0) = false := by simp; omega
          rcases hz with ⟨rfl, rfl⟩ | ⟨j, hj, rfl, rfl⟩
          · have hq0 := (boundsB_at (a := q) (f := f) (by rw [hbd]; rfl)).2.2.1
            simp only [Nat.zero_mul, Nat.add_zero, Nat.zero_add] at hc0 hc1
            clear hc hp
            go_wp2
            refine wp_region_gr (by kernel_rfl) (by kernel_rfl) ?_
            repeat (go_big_quiet_step (first | (go_at_call 14; exact Calls.gr (hbc _))))
            refine wpQuiet_nil ?_
            intro g
            go_wp2
            refine wp_region_gr' (by kernel_rfl) (by kernel_rfl) ?_
            repeat (go_big_quiet_step (first | fail))
            refine wpQuiet_nil ?_
            intro g2
            go_wp2
            go_roundw
            case rel => exact ⟨1, q, by omega, by go_num, by rw [HR.out, hbd]; simp [hn]; omega, .inr ⟨0, hlk, rfl, by rw [hLk]⟩, (by repeat (first | exact Below.refl _ _ | assumption | (refine Below.setCell ?_ (by (first | omega | (simp; done) | (simp; omega) | (simp at *; omega))) _) | (refine Below.alloc ?_ (by (first | omega | (simp; done) | (simp; omega) | (simp at *; omega))) _) | (refine Below.drew ?_) | (refine Gr.into _ ?_ (by (first | omega | (simp; done) | (simp; omega) | (simp at *; omega)))))), (by repeat (first | assumption | exact RowAt.new_at _ _ _ _ (by (first | omega | (simp; done) | (simp; omega) | (simp at *; omega))) | (refine RowAt.alloc ?_ _) | (refine RowAt.gr ?_ _) | (refine RowAt.setOther ?_ _ _ (by (first | omega | (simp; done) | (simp; omega) | (simp at *; omega)))) | (refine RowAt.drew ?_)))⟩
            case measure => simp [intOf]; omega
          · obtain ⟨hd0, hd1⟩ := hc j hj
            rw [← hB.cell (p := ⟨a, off + j * 2, none⟩) ha] at hd0
            rcases hLj : L[j] with ⟨q', n'⟩
            rw [hLj] at hd0 HR
            have hjw : ((j + 1 : Nat) : Int) - 1 = (j : Nat) := by omega
            have hji : (j : Int) < L.length := by omega
            by_cases hqq : q ≤ q'
            · have hres := hno (by rw [HR.out, hbd]; simp [hn]; omega)
              clear hc hp
              go_wp2
              refine wp_region_gr (by kernel_rfl) (by kernel_rfl) ?_
              repeat (go_big_quiet_step (first | (go_at_call 14; exact Calls.gr (hbc _))))
              refine wpQuiet_nil ?_
              intro g
              go_wp2
              refine wp_region_gr' (by kernel_rfl) (by kernel_rfl) ?_
              repeat (go_big_quiet_step (first | fail))
              refine wpQuiet_nil ?_
              intro g2
              go_wp2
              go_ret
              exact ⟨by rw [hres]; rfl, (by repeat (first | exact Below.refl _ _ | assumption | (refine Below.setCell ?_ (by (first | omega | (simp; done) | (simp; omega) | (simp at *; omega))) _) | (refine Below.alloc ?_ (by (first | omega | (simp; done) | (simp; omega) | (simp at *; omega))) _) | (refine Below.drew ?_) | (refine Gr.into _ ?_ (by (first | omega | (simp; done) | (simp; omega) | (simp at *; omega))))))⟩
            · have hqq2 : q' < q := by omega
              clear hc hp
              go_wp2
              refine wp_region_gr (by kernel_rfl) (by kernel_rfl) ?_
              repeat (go_big_quiet_step (first | (go_at_call 14; exact Calls.gr (hbc _))))
              refine wpQuiet_nil ?_
              intro g
              go_wp2
              refine wp_region_gr' (by kernel_rfl) (by kernel_rfl) ?_
              repeat (go_big_quiet_step (first | fail))
              refine wpQuiet_nil ?_
              intro g2
              go_wp2
              go_roundw
              case rel => exact ⟨j + 1 + 1, q, by omega, by go_num, by rw [HR.out, hbd]; simp [hn, hqq2], .inr ⟨j + 1, hlk, rfl, by rw [hLk]⟩, (by repeat (first | exact Below.refl _ _ | assumption | (refine Below.setCell ?_ (by (first | omega | (simp; done) | (simp; omega) | (simp at *; omega))) _) | (refine Below.alloc ?_ (by (first | omega | (simp; done) | (simp; omega) | (simp at *; omega))) _) | (refine Below.drew ?_) | (refine Gr.into _ ?_ (by (first | omega | (simp; done) | (simp; omega) | (simp at *; omega)))))), (by repeat (first | assumption | exact RowAt.new_at _ _ _ _ (by (first | omega | (simp; done) | (simp; omega) | (simp at *; omega))) | (refine RowAt.alloc ?_ _) | (refine RowAt.gr ?_ _) | (refine RowAt.setOther ?_ _ _ (by (first | omega | (simp; done) | (simp; omega) | (simp at *; omega)))) | (refine RowAt.drew ?_)))⟩
              case measure => simp [intOf]; omega
    · obtain rfl : k = L.length := by omega
      have hres : rightL f L = fineB f := by unfold rightL; rw [hr, List.drop_length]; simp [rightFrom]
      unfold fineB at hres
      have HQ := Lib.hid hres
      clear hr hp hres
      by_cases hf0 : 0 ≤ f
      · by_cases hf3 : f ≤ 3
        · go_wp2
          go_ret
          exact ⟨by rw [HQ.out]; first | (simp; done) | (simp [hf0, hf3]; done) | (simp; omega), (by repeat (first | exact Below.refl _ _ | assumption | (refine Below.setCell ?_ (by (first | omega | (simp; done) | (simp; omega) | (simp at *; omega))) _) | (refine Below.alloc ?_ (by (first | omega | (simp; done) | (simp; omega) | (simp at *; omega))) _) | (refine Below.drew ?_) | (refine Gr.into _ ?_ (by (first | omega | (simp; done) | (simp; omega) | (simp at *; omega))))))⟩
        · go_wp2
          go_ret
          exact ⟨by rw [HQ.out]; first | (simp; done) | (simp [hf0, hf3]; done) | (simp; omega), (by repeat (first | exact Below.refl _ _ | assumption | (refine Below.setCell ?_ (by (first | omega | (simp; done) | (simp; omega) | (simp at *; omega))) _) | (refine Below.alloc ?_ (by (first | omega | (simp; done) | (simp; omega) | (simp at *; omega))) _) | (refine Below.drew ?_) | (refine Gr.into _ ?_ (by (first | omega | (simp; done) | (simp; omega) | (simp at *; omega))))))⟩
      · go_wp2
        go_ret
        exact ⟨by rw [HQ.out]; first | (simp; done) | (simp [hf0]; done) | (simp; omega), (by repeat (first | exact Below.refl _ _ | assumption | (refine Below.setCell ?_ (by (first | omega | (simp; done) | (simp; omega) | (simp at *; omega))) _) | (refine Below.alloc ?_ (by (first | omega | (simp; done) | (simp; omega) | (simp at *; omega))) _) | (refine Below.drew ?_) | (refine Gr.into _ ?_ (by (first | omega | (simp; done) | (simp; omega) | (simp at *; omega))))))⟩
end Go.Proofs.Ytnoemopaplopdaa
