/- Package hist: Same; the references' Plus. -/
import Derived.Test.YtnoemopaplopdaaI2
namespace Go.Proofs.Ytnoemopaplopdaa
open Go.RowKit Go.Maps

theorem plus_any (x y : Nat) (w : World) (hx : x ≤ maxU) (hy : y ≤ maxU) :
    Calls Try.prog 26 #[.int .u64 x, .int .u64 y] w fun e w' => e = .returned (.int .u64 (satU x y : Nat)) ∧ Below w.heap.size w w' := by
  unfold maxU at hx hy
  by_cases h : 18446744073709551615 - (y : Int) < (x : Int)
  · have e : (satU x y : Int) = 18446744073709551615 := by unfold satU maxU; omega
    rw [e]
    go_enter Try.func26, Try.ntmps26
    go_wp2
    go_ret
    exact ⟨rfl, (by repeat (first | exact Below.refl _ _ | assumption | (refine Below.setCell ?_ (by (first | omega | (simp; done) | (simp; omega) | (simp at *; omega))) _) | (refine Below.alloc ?_ (by (first | omega | (simp; done) | (simp; omega) | (simp at *; omega))) _) | (refine Below.drew ?_) | (refine Gr.into _ ?_ (by (first | omega | (simp; done) | (simp; omega) | (simp at *; omega))))))⟩
  · have e : (satU x y : Int) = (x : Int) + y := by unfold satU maxU; omega
    rw [e]
    go_enter Try.func26, Try.ntmps26
    go_wp2
    go_ret
    exact ⟨rfl, (by repeat (first | exact Below.refl _ _ | assumption | (refine Below.setCell ?_ (by (first | omega | (simp; done) | (simp; omega) | (simp at *; omega))) _) | (refine Below.alloc ?_ (by (first | omega | (simp; done) | (simp; omega) | (simp at *; omega))) _) | (refine Below.drew ?_) | (refine Gr.into _ ?_ (by (first | omega | (simp; done) | (simp; omega) | (simp at *; omega))))))⟩
theorem BinsAt.form {B : Nat} {w : World} {v : Value} {L : List (Int × Nat)} (h : BinsAt B w v L) : ∃ p cap, v = .slice p L.length cap ∧ L.length ≤ 4611686018427387904 ∧
    (L ≠ [] → ∃ a off, p = some ⟨a, off, none⟩ ∧ a < B ∧ ∀ i (h : i < L.length), w.cell? ⟨a, off + i * 2, none⟩ = some (.int .i64 L[i].1) ∧ w.cell? ⟨a, off + i * 2 + 1, none⟩ = some (.int .u64 (L[i].2 : Nat))) := by
  obtain ⟨n1, n2, ⟨a, rfl, rfl⟩ | ⟨a, off, cap, rfl, h3, hcap, h4⟩⟩ := h
  · exact ⟨a, 0, rfl, by simp, fun h => absurd rfl h⟩
  · exact ⟨_, cap, rfl, n2, fun _ => ⟨a, off, rfl, h3, h4⟩⟩
theorem neq_bins (x1 x2 : Int) (n1 n2 : Nat) (w : World) : Sem.run Try.prog (binOp .neq 65 (.agg #[.int .i64 x1, .int .u64 n1]) (.agg #[.int .i64 x2, .int .u64 n2])) w = .ok (.bool (!(decide (x1 = x2) && decide (n1 = n2)))) w := by
  by_cases h1 : x1 = x2
  · by_cases h2 : n1 = n2
    · subst h1 h2; simp [go_sem]
    · have h4 : ((n1 : Int) == n2) = false := by simp; omega
      simp [go_sem, h1, h2, h4]
  · have h4 : (x1 == x2) = false := by simpa using h1
    simp [go_sem, h1, h4]
set_option maxRecDepth 100000 in
set_option maxHeartbeats 1000000 in
theorem equal_bins (v u : Value) (L K : List (Int × Nat)) (w : World) (hL : BinsAt w.heap.size w v L) (hK : BinsAt w.heap.size w u K) :
    Calls Try.prog 45 #[v, u] w fun e w' => e = .returned (.bool (decide (L = K))) ∧ Below w.heap.size w w' := by
  obtain ⟨p, cp, rfl, hl1, hp⟩ := hL.form
  obtain ⟨q, cq, rfl, hl2, hq⟩ := hK.form
  by_cases hlen : L.length = K.length
  · rw [← hlen]
    have HL := Lib.hid hlen
    clear hlen
    go_enter Try.func45, Try.ntmps45
    go_wp2
    go_loopw [13] (fun i wr => ∃ k : Nat, k ≤ L.length ∧ i = .int .i64 k ∧ L.take k = K.take k ∧ Below w.heap.size w wr)
      (fun i _ => L.length - (intOf i).toNat)
    case atStart => exact ⟨0, by omega, rfl, by simp, Below.refl _ _⟩
    case round =>
      obtain ⟨k, hk, rfl, hT, hB⟩ := hrel
      by_cases hlk : k < L.length
      · have hlk2 : k < K.length := by have := HL.out; omega
        obtain ⟨a, off, rfl, ha, hc⟩ := hp (by rintro rfl; simp at hlk)
        obtain ⟨b, off2, rfl, hb, hd⟩ := hq (by rintro rfl; simp at hlk2)
        obtain ⟨hc0, hc1⟩ := hc k hlk
        obtain ⟨hd0, hd1⟩ := hd k hlk2
        rw [← hB.cell (p := ⟨a, off + k * 2, none⟩) ha] at hc0
        rw [← hB.cell (p := ⟨a, off + k * 2 + 1, none⟩) ha] at hc1
        rw [← hB.cell (p := ⟨b, off2 + k * 2, none⟩) hb] at hd0
        rw [← hB.cell (p := ⟨b, off2 + k * 2 + 1, none⟩) hb] at hd1
        have hal : a < wr.heap.size := Nat.lt_of_lt_of_le ha hB.size
        have hbl : b < wr.heap.size := Nat.lt_of_lt_of_le hb hB.size
        have hs1 : L.take (k + 1) = L.take k ++ [L[k]] := List.take_succ_eq_append_getElem hlk
        have hs2 : K.take (k + 1) = K.take k ++ [K[k]] := List.take_succ_eq_append_getElem hlk2
        have hne : L[k] ≠ K[k] → decide (L = K) = false := fun h => decide_eq_false (by rintro rfl; exact h rfl)
        rcases hLk : L[k] with ⟨x1, n1⟩
        rcases hKk : K[k] with ⟨x2, n2⟩
        rw [hLk] at hc0 hc1 hs1 hne
        rw [hKk] at hd0 hd1 hs2 hne
        have H1 := Lib.hid hs1
        have H2 := Lib.hid hs2
        clear hs1 hs2 hc hd hp hq
        have hBs := hB.size
        by_cases h1 : x1 = x2 ∧ n1 = n2
        · obtain ⟨rfl, rfl⟩ := h1
          have hneq : ∀ W, Sem.run Try.prog (binOp .neq 65 (.agg #[.int .i64 x1, .int .u64 n1]) (.agg #[.int .i64 x1, .int .u64 n1])) W = .ok (.bool false) W := fun W => by
            rw [neq_bins]; simp
          go_wp2
          refine wp_region_gr (by kernel_rfl) (by kernel_rfl) ?_
          repeat (go_big_quiet_step (first | fail))
          refine wpQuiet_nil ?_
          intro g
          go_wp2
          go_roundw
          case rel => exact ⟨k + 1, by omega, by go_num, by rw [H1.out, H2.out, hT], (by repeat (first | exact Below.refl _ _ | assumption | (refine Below.setCell ?_ (by (first | omega | (simp; done) | (simp; omega) | (simp at *; omega))) _) | (refine Below.alloc ?_ (by (first | omega | (simp; done) | (simp; omega) | (simp at *; omega))) _) | (refine Below.drew ?_) | (refine Gr.into _ ?_ (by (first | omega | (simp; done) | (simp; omega) | (simp at *; omega))))))⟩
          case measure => simp [intOf]; omega
        · have h3 := hne (by simpa using h1)
          have hneq : ∀ W, Sem.run Try.prog (binOp .neq 65 (.agg #[.int .i64 x1, .int .u64 n1]) (.agg #[.int .i64 x2, .int .u64 n2])) W = .ok (.bool true) W := fun W => by
            rw [neq_bins]; simp; omega
          go_wp2
          refine wp_region_gr (by kernel_rfl) (by kernel_rfl) ?_
          repeat (go_big_quiet_step (first | fail))
          refine wpQuiet_nil ?_
          intro g
          go_wp2
          go_ret
          exact ⟨by rw [h3]; rfl, (by repeat (first | exact Below.refl _ _ | assumption | (refine Below.setCell ?_ (by (first | omega | (simp; done) | (simp; omega) | (simp at *; omega))) _) | (refine Below.alloc ?_ (by (first | omega | (simp; done) | (simp; omega) | (simp at *; omega))) _) | (refine Below.drew ?_) | (refine Gr.into _ ?_ (by (first | omega | (simp; done) | (simp; omega) | (simp at *; omega))))))⟩
      · obtain rfl : k = L.length := by omega
        rw [List.take_length, HL.out, List.take_length] at hT
        subst hT
        go_wp2
        go_ret
        exact ⟨by simp, (by repeat (first | exact Below.refl _ _ | assumption | (refine Below.setCell ?_ (by (first | omega | (simp; done) | (simp; omega) | (simp at *; omega))) _) | (refine Below.alloc ?_ (by (first | omega | (simp; done) | (simp; omega) | (simp at *; omega))) _) | (refine Below.drew ?_) | (refine Gr.into _ ?_ (by (first | omega | (simp; done) | (simp; omega) | (simp at *; omega))))))⟩
  · have hne : decide (L = K) = false := decide_eq_false (by rintro rfl; exact hlen rfl)
    have h1 : ((L.length : Int) == K.length) = false := by simp; omega
    rw [hne]
    go_enter Try.func45, Try.ntmps45
    go_wp2
    go_ret
    exact ⟨rfl, (by repeat (first | exact Below.refl _ _ | assumption | (refine Below.setCell ?_ (by (first | omega | (simp; done) | (simp; omega) | (simp at *; omega))) _) | (refine Below.alloc ?_ (by (first | omega | (simp; done) | (simp; omega) | (simp at *; omega))) _) | (refine Below.drew ?_) | (refine Gr.into _ ?_ (by (first | omega | (simp; done) | (simp; omega) | (simp at *; omega))))))⟩
def sameH (f h : Int) (L K : List (Int × Nat)) : Bool := decide (f = h) && decide (L = K)
theorem hSame_any (f h : Int) (v u : Value) (L K : List (Int × Nat)) (w : World) (hL : BinsAt w.heap.size w v L) (hK : BinsAt w.heap.size w u K) :
    Calls Try.prog 28 #[HistV f v, HistV h u] w fun e w' => e = .returned (.bool (sameH f h L K)) ∧ Below w.heap.size w w' := by
  have hE : ∀ W, Below w.heap.size w W → Calls Try.prog 45 #[v, u] W fun e w' => e = .returned (.bool (decide (L = K))) ∧ Below W.heap.size W w' := fun W hb => equal_bins v u L K W (hL.at_ hb) (hK.at_ hb)
  unfold sameH
  by_cases h0 : f = h
  · subst h0
    go_enter Try.func28, Try.ntmps28
    go_wp2_with fail
    with_reducible refine Calls.mono (Calls.gr0 (hE _ (by repeat (first | exact Below.refl _ _ | assumption | (refine Below.setCell ?_ (by (first | omega | (simp; done) | (simp; omega) | (simp at *; omega))) _) | (refine Below.alloc ?_ (by (first | omega | (simp; done) | (simp; omega) | (simp at *; omega))) _) | (refine Below.drew ?_) | (refine Gr.into _ ?_ (by (first | omega | (simp; done) | (simp; omega) | (simp at *; omega)))))))) ?_
    rintro e w' ⟨rfl, g, rfl⟩
    have hgl := g.le
    try simp only [World.size_alloc] at hgl
    try simp only [World.size_setCell] at hgl
    go_wp2_with fail
    go_ret
    exact ⟨by simp, (by repeat (first | exact Below.refl _ _ | assumption | (refine Below.setCell ?_ (by (first | omega | (simp; done) | (simp; omega) | (simp at *; omega))) _) | (refine Below.alloc ?_ (by (first | omega | (simp; done) | (simp; omega) | (simp at *; omega))) _) | (refine Below.drew ?_) | (refine Gr.into _ ?_ (by (first | omega | (simp; done) | (simp; omega) | (simp at *; omega))))))⟩
  · have h1 : (f == h) = false := by simpa using h0
    rw [decide_eq_false h0]
    go_enter Try.func28, Try.ntmps28
    go_wp2_with fail
    go_ret
    exact ⟨rfl, (by repeat (first | exact Below.refl _ _ | assumption | (refine Below.setCell ?_ (by (first | omega | (simp; done) | (simp; omega) | (simp at *; omega))) _) | (refine Below.alloc ?_ (by (first | omega | (simp; done) | (simp; omega) | (simp at *; omega))) _) | (refine Below.drew ?_) | (refine Gr.into _ ?_ (by (first | omega | (simp; done) | (simp; omega) | (simp at *; omega))))))⟩
end Go.Proofs.Ytnoemopaplopdaa
