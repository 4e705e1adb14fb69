/- The references' Same; the law's Few. -/
import Derived.Test.YtnoemopaplopdaaK5
namespace Go.Proofs.Ytnoemopaplopdaa
open Go.RowKit Go.Maps

set_option maxRecDepth 100000 in
set_option maxHeartbeats 1000000 in
theorem rsame_any (f h : Int) (v u : Value) (L K : List (Int × Nat)) (w : World) (hL : BinsAt w.heap.size w v L) (hK : BinsAt w.heap.size w u K) :
    Calls Try.prog 21 #[HistV f v, HistV h u] w fun e w' => e = .returned (.bool (sameH f h L K)) ∧ Below w.heap.size w w' := by
  obtain ⟨p, cp, rfl, hl1, hp⟩ := hL.form
  obtain ⟨q, cq, rfl, hl2, hq⟩ := hK.form
  unfold sameH
  by_cases h0 : f = h
  · subst h0
    have hd : decide (f = f) = true := by simp
    rw [hd, Bool.true_and]
    by_cases hlen : L.length = K.length
    · rw [← hlen]
      have HL := Lib.hid hlen
      clear hlen
      go_enter Try.func21, Try.ntmps21
      go_wp2
      refine wp_named (fun V hV => ?_)
      have hBV : Below w.heap.size w V := by rw [hV]; exact (by repeat (first | exact Below.refl _ _ | assumption | (refine Below.setCell ?_ (by (first | omega | (simp; done) | (simp; omega) | (simp at *; omega))) _) | (refine Below.alloc ?_ (by (first | omega | (simp; done) | (simp; omega) | (simp at *; omega))) _) | (refine Below.drew ?_) | (refine Gr.into _ ?_ (by (first | omega | (simp; done) | (simp; omega) | (simp at *; omega))))))
      have x : RowAt V (w.heap.size) 25 [.int .i64 f, .slice p L.length cp] := by rw [hV]; exact (by repeat (first | assumption | exact RowAt.new_at _ _ _ _ (by (first | omega | (simp; done) | (simp; omega) | (simp at *; omega))) | (refine RowAt.alloc ?_ _) | (refine RowAt.gr ?_ _) | (refine RowAt.setOther ?_ _ _ (by (first | omega | (simp; done) | (simp; omega) | (simp at *; omega)))) | (refine RowAt.drew ?_)))
      have y : RowAt V (w.heap.size + 1) 25 [.int .i64 f, .slice q L.length cq] := by rw [hV]; exact (by repeat (first | assumption | exact RowAt.new_at _ _ _ _ (by (first | omega | (simp; done) | (simp; omega) | (simp at *; omega))) | (refine RowAt.alloc ?_ _) | (refine RowAt.gr ?_ _) | (refine RowAt.setOther ?_ _ _ (by (first | omega | (simp; done) | (simp; omega) | (simp at *; omega)))) | (refine RowAt.drew ?_)))
      clear hV
      obtain ⟨xc0, xc1, xf0, xf1, xl⟩ := x.two
      obtain ⟨yc0, yc1, yf0, yf1, yl⟩ := y.two
      go_loopw [5] (fun i wr => ∃ k : Nat, k ≤ L.length ∧ i = .int .i64 k ∧ L.take k = K.take k ∧ Below V.heap.size V wr)
        (fun i _ => L.length - (intOf i).toNat)
      case atStart => exact ⟨0, by omega, rfl, by simp, Below.refl _ _⟩
      case round =>
        obtain ⟨k, hk, rfl, hT, hBv⟩ := hrel
        have hVs := hBV.size
        have hB : Below w.heap.size w wr := hBV.trans (hBv.mono hVs)
        have x2 := x.below hBv xl
        have y2 := y.below hBv yl
        obtain ⟨x2c0, x2c1, -, -, x2l⟩ := x2.two
        obtain ⟨y2c0, y2c1, -, -, y2l⟩ := y2.two
        by_cases hlk : k < L.length
        · have hlk2 : k < K.length := by have := HL.out; omega
          have hki : (k : Int) < L.length := by omega
          obtain ⟨a, off, rfl, ha, hc⟩ := hp (by rintro rfl; simp at hlk)
          obtain ⟨b, off2, rfl, hb, hd⟩ := hq (by rintro rfl; simp at hlk2)
          obtain ⟨hc0, hc1⟩ := hc k hlk
          obtain ⟨hd0, hd1⟩ := hd k hlk2
          rw [← hB.cell (p := ⟨a, off + k * 2, none⟩) ha] at hc0
          rw [← hB.cell (p := ⟨a, off + k * 2 + 1, none⟩) ha] at hc1
          rw [← hB.cell (p := ⟨b, off2 + k * 2, none⟩) hb] at hd0
          rw [← hB.cell (p := ⟨b, off2 + k * 2 + 1, none⟩) hb] at hd1
          have hal : a < wr.heap.size := Nat.lt_of_lt_of_le ha hB.size
          have hbl : b < wr.heap.size := Nat.lt_of_lt_of_le hb hB.size
          have hs1 : L.take (k + 1) = L.take k ++ [L[k]] := List.take_succ_eq_append_getElem hlk
          have hs2 : K.take (k + 1) = K.take k ++ [K[k]] := List.take_succ_eq_append_getElem hlk2
          have hne : L[k] ≠ K[k] → decide (L = K) = false := fun h => decide_eq_false (by rintro rfl; exact h rfl)
          rcases hLk : L[k] with ⟨x1, n1⟩
          rcases hKk : K[k] with ⟨x2, n2⟩
          rw [hLk] at hc0 hc1 hs1 hne
          rw [hKk] at hd0 hd1 hs2 hne
          have H1 := Lib.hid hs1
          have H2 := Lib.hid hs2
          clear hs1 hs2 hc hd hp hq
          have hBs := hBv.size
          by_cases h1 : x1 = x2 ∧ n1 = n2
          · obtain ⟨rfl, rfl⟩ := h1
            have hneq : ∀ W, Sem.run Try.prog (binOp .neq 65 (.agg #[.int .i64 x1, .int .u64 n1]) (.agg #[.int .i64 x1, .int .u64 n1])) W = .ok (.bool false) W := fun W => by
              rw [neq_bins]; simp
            go_wp2
            refine wp_region_gr (by kernel_rfl) (by kernel_rfl) ?_
            repeat (go_big_quiet_step (first | fail))
            refine wpQuiet_nil ?_
            intro g
            go_wp2
            go_roundw
            case rel => exact ⟨k + 1, by omega, by go_num, by rw [H1.out, H2.out, hT], hBv.trans (g.below.mono hBs)⟩
            case measure => simp [intOf]; omega
          · have h3 := hne (by simpa using h1)
            have hneq : ∀ W, Sem.run Try.prog (binOp .neq 65 (.agg #[.int .i64 x1, .int .u64 n1]) (.agg #[.int .i64 x2, .int .u64 n2])) W = .ok (.bool true) W := fun W => by
              rw [neq_bins]; simp; omega
            go_wp2
            refine wp_region_gr (by kernel_rfl) (by kernel_rfl) ?_
            repeat (go_big_quiet_step (first | fail))
            refine wpQuiet_nil ?_
            intro g
            go_wp2
            go_ret
            exact ⟨by rw [h3]; rfl, hB.trans (g.below.mono (by omega))⟩
        · obtain rfl : k = L.length := by omega
          rw [List.take_length, HL.out, List.take_length] at hT
          subst hT
          go_wp2
          go_ret
          exact ⟨by simp, hB⟩
    · have hne : decide (L = K) = false := decide_eq_false (by rintro rfl; exact hlen rfl)
      have h1 : ((L.length : Int) == K.length) = false := by simp; omega
      rw [hne]
      go_enter Try.func21, Try.ntmps21
      go_wp2
      go_ret
      exact ⟨rfl, (by repeat (first | exact Below.refl _ _ | assumption | (refine Below.setCell ?_ (by (first | omega | (simp; done) | (simp; omega) | (simp at *; omega))) _) | (refine Below.alloc ?_ (by (first | omega | (simp; done) | (simp; omega) | (simp at *; omega))) _) | (refine Below.drew ?_) | (refine Gr.into _ ?_ (by (first | omega | (simp; done) | (simp; omega) | (simp at *; omega))))))⟩
  · have h1 : (f == h) = false := by simpa using h0
    rw [decide_eq_false h0, Bool.false_and]
    go_enter Try.func21, Try.ntmps21
    go_wp2
    go_ret
    exact ⟨rfl, (by repeat (first | exact Below.refl _ _ | assumption | (refine Below.setCell ?_ (by (first | omega | (simp; done) | (simp; omega) | (simp at *; omega))) _) | (refine Below.alloc ?_ (by (first | omega | (simp; done) | (simp; omega) | (simp at *; omega))) _) | (refine Below.drew ?_) | (refine Gr.into _ ?_ (by (first | omega | (simp; done) | (simp; omega) | (simp at *; omega))))))⟩
theorem few_hist (f : Int) (p : Option Addr) (n cap m : Nat) (w : World) (hm : min (n : Int) 300 = (m : Nat)) (hc : m ≤ cap) :
    Calls Try.prog 12 #[HistV f (.slice p n cap)] w fun e w' => e = .returned (HistV f (.slice p m cap)) ∧ Below w.heap.size w w' := by
  have hc2 : (m : Int) ≤ cap := by omega
  have hm0 : (0 : Int) ≤ m := by omega
  go_enter Try.func12, Try.ntmps12
  go_wp2
  refine wp_named (fun V hV => ?_)
  have hBV : Below w.heap.size w V := by rw [hV]; exact (by repeat (first | exact Below.refl _ _ | assumption | (refine Below.setCell ?_ (by (first | omega | (simp; done) | (simp; omega) | (simp at *; omega))) _) | (refine Below.alloc ?_ (by (first | omega | (simp; done) | (simp; omega) | (simp at *; omega))) _) | (refine Below.drew ?_) | (refine Gr.into _ ?_ (by (first | omega | (simp; done) | (simp; omega) | (simp at *; omega))))))
  have x : RowAt V (w.heap.size) 25 [.int .i64 f, .slice p n cap] := by rw [hV]; exact (by repeat (first | assumption | exact RowAt.new_at _ _ _ _ (by (first | omega | (simp; done) | (simp; omega) | (simp at *; omega))) | (refine RowAt.alloc ?_ _) | (refine RowAt.gr ?_ _) | (refine RowAt.setOther ?_ _ _ (by (first | omega | (simp; done) | (simp; omega) | (simp at *; omega)))) | (refine RowAt.drew ?_)))
  have r : RowAt V (w.heap.size + 1) 25 [.int .i64 0, .slice none 0 0] := by rw [hV]; exact (by repeat (first | assumption | exact RowAt.new_at _ _ _ _ (by (first | omega | (simp; done) | (simp; omega) | (simp at *; omega))) | (refine RowAt.alloc ?_ _) | (refine RowAt.gr ?_ _) | (refine RowAt.setOther ?_ _ _ (by (first | omega | (simp; done) | (simp; omega) | (simp at *; omega)))) | (refine RowAt.drew ?_)))
  clear hV
  obtain ⟨xc0, xc1, xf0, xf1, xl⟩ := x.two
  obtain ⟨rc0, rc1, rf0, rf1, rl⟩ := r.two
  refine wp_region_gr_tail 10 (by kernel_rfl) (by kernel_rfl) ?_
  simp only [List.take_succ_cons, List.take_zero, List.drop_succ_cons, List.drop_zero]
  repeat (go_big_quiet_step (first | fail))
  refine wpQuiet_nil ?_
  intro g
  have hgl := g.le
  go_wp2
  exact bodyPost_ret (v := HistV f (.slice p m cap)) (by simp [results, Try.results12, go_sem, rc0, rc1, rl]) rfl ⟨rfl, (by repeat (first | exact Below.refl _ _ | assumption | (refine Below.setCell ?_ (by (first | omega | (simp; done) | (simp; omega) | (simp at *; omega))) _) | (refine Below.alloc ?_ (by (first | omega | (simp; done) | (simp; omega) | (simp at *; omega))) _) | (refine Below.drew ?_) | (refine Gr.into _ ?_ (by (first | omega | (simp; done) | (simp; omega) | (simp at *; omega))))))⟩
end Go.Proofs.Ytnoemopaplopdaa
