/- The walk of the law HistFull. -/
import Derived.Test.YtnoemopaplopdaaJ3
import Derived.Test.YtnoemopaplopdaaN2
namespace Go.Proofs.Ytnoemopaplopdaa
open Go.RowKit Go.Maps

theorem fine_no {f : Int} (h : fineB f = false) : (0 ≤ f → 3 < f) := by simp [fineB] at h; omega
theorem full_law_no (f : Int) (v n m : Nat) (w : World) (h : fineB f = false) :
    Calls Try.prog 6 #[.int .i64 f, .int .u64 v, .int .u64 n, .int .u64 m] w fun e w' => e = .returned (.bool true) ∧ Below w.heap.size w w' := by
  have hd := fine_no h
  rcases Classical.em (f < 0) with h1 | h1
  all_goals
    go_enter Try.func6, Try.ntmps6
    go_wp2_with fail
    with_reducible refine Calls.mono (Calls.gr0 (shown_any _)) ?_
    rintro e w' ⟨rfl, g, rfl⟩
    have hgl := g.le
    try simp only [World.size_alloc] at hgl
    try simp only [World.size_setCell] at hgl
    go_wp2_with fail
    go_ret
    exact ⟨rfl, (by repeat (first | exact Below.refl _ _ | assumption | (refine Below.setCell ?_ (by (first | omega | (simp; done) | (simp; omega) | (simp at *; omega))) _) | (refine Below.alloc ?_ (by (first | omega | (simp; done) | (simp; omega) | (simp at *; omega))) _) | (refine Below.drew ?_) | (refine Gr.into _ ?_ (by (first | omega | (simp; done) | (simp; omega) | (simp at *; omega))))))⟩
set_option maxRecDepth 100000 in
theorem full_law_yes (f v n m : Nat) (w : World) (h : f ≤ 3) (hv : v < 18446744073709551616) (hn : n < 18446744073709551616) (hm : m < 18446744073709551616) :
    Calls Try.prog 6 #[.int .i64 f, .int .u64 v, .int .u64 n, .int .u64 m] w fun e w' => e = .returned (.bool true) ∧ Below w.heap.size w w' := by
  have hf : fineB f = true := by simp [fineB]; omega
  have hfi : (f : Int) ≤ 3 := by omega
  have m1 : ∀ x ∈ [(v, n)], x.1 < 2 ^ 64 := by intro x hx; simp at hx; subst hx; exact hv
  have m2 : ∀ x ∈ [(v, n), (v, m)], x.1 < 2 ^ 64 := by intro x hx; simp at hx; rcases hx with rfl | rfl <;> exact hv
  have c1 := ofL_canon (f := f) h m1
  have c2 := ofL_canon (f := f) h m2
  have l1 := ofL_length f [(v, n)]
  have l2 := full_length f v n m
  have k1 : ∀ W, Calls Try.prog 15 #[HistV f (.slice none 0 0), .int .u64 v, .int .u64 n] W fun e w' => ∃ v', e = histRes f v' 0 ∧ BinsAt w'.heap.size w' v' (ofL f [(v, n)]) ∧ Below W.heap.size W w' := fun W => by
    have := hAdd_yes f v n _ (ofL f []) W (binsNil _ _) (ofL_canon (f := f) h (by simp)).right hv hn (by simp [ofL])
    rwa [ofL_snoc h (by simp) (v, n)] at this
  have k2 : ∀ u W, BinsAt W.heap.size W u (ofL f [(v, n)]) → Calls Try.prog 15 #[HistV f u, .int .u64 v, .int .u64 m] W fun e w' => ∃ v', e = histRes f v' 0 ∧ BinsAt w'.heap.size w' v' (ofL f [(v, n), (v, m)]) ∧ Below W.heap.size W w' := fun u W hu => by
    have := hAdd_yes f v m u (ofL f [(v, n)]) W hu c1.right hv hm (by simp at l1; omega)
    rwa [ofL_snoc h m1 (v, m)] at this
  have k3 : ∀ u W, BinsAt W.heap.size W u (ofL f [(v, n), (v, m)]) → Calls Try.prog 25 #[HistV f u, HistV f u] W fun e w' => ∃ v', e = histRes f v' 0 ∧ BinsAt w'.heap.size w' v' ((ofL f [(v, n), (v, m)]).foldl addB ((ofL f [(v, n), (v, m)]).foldl addB [])) ∧ Below W.heap.size W w' := fun u W hu => hMerge_yes f u u _ _ W hu hu c2.right c2.right (by omega) (by omega)
  have k4 : ∀ W, Calls Try.prog 26 #[.int .u64 n, .int .u64 m] W fun e w' => e = .returned (.int .u64 (satU n m : Nat)) ∧ Below W.heap.size W w' := fun W => plus_any n m W (by unfold maxU; omega) (by unfold maxU; omega)
  have hs : satU n m ≤ maxU := Nat.min_le_right _ _
  have k5 : ∀ W, Calls Try.prog 26 #[.int .u64 (satU n m : Nat), .int .u64 (satU n m : Nat)] W fun e w' => e = .returned (.int .u64 (satU (satU n m) (satU n m) : Nat)) ∧ Below W.heap.size W w' := fun W => plus_any _ _ W hs hs
  have k6 : ∀ u W, BinsAt W.heap.size W u (ofL f [(v, n), (v, m)]) → Calls Try.prog 23 #[HistV f u] W fun e w' => e = .returned (.int .u64 (satU n m : Nat)) ∧ Below W.heap.size W w' := fun u W hu => by
    have := total_any f u _ W hu
    rwa [full_total h hv] at this
  have k7 : ∀ u W, BinsAt W.heap.size W u (ofL f [(v, n), (v, m)]) → Calls Try.prog 22 #[HistV f u, .int .u64 v] W fun e w' => e = .returned (.int .u64 (satU n m : Nat)) ∧ Below W.heap.size W w' := fun u W hu => by
    have := rank_any f v u _ W hu hv
    rwa [full_rank h hv] at this
  have k8 : ∀ u W, BinsAt W.heap.size W u ((ofL f [(v, n), (v, m)]).foldl addB ((ofL f [(v, n), (v, m)]).foldl addB [])) → Calls Try.prog 23 #[HistV f u] W fun e w' => e = .returned (.int .u64 (satU (satU n m) (satU n m) : Nat)) ∧ Below W.heap.size W w' := fun u W hu => by
    have := total_any f u _ W hu
    unfold totalH at this
    rw [rank_merge c2 c2] at this
    have e := full_total (m := m) (n := n) h hv
    unfold totalH at e
    rwa [e] at this
  generalize satU n m = s at *
  generalize satU s s = s2 at *
  generalize hB3 : (ofL f [(v, n), (v, m)]).foldl addB ((ofL f [(v, n), (v, m)]).foldl addB []) = B3 at *
  generalize hB1 : ofL f [(v, n)] = B1 at *
  generalize hB2 : ofL f [(v, n), (v, m)] = B2 at *
  clear hB1 hB2 hB3 c1 c2 m1 m2
  go_enter Try.func6, Try.ntmps6
  go_wp2_with fail
  with_reducible refine Calls.mono (Calls.gr0 (shown_any _)) ?_
  rintro e w' ⟨rfl, g, rfl⟩
  have hgl := g.le
  try simp only [World.size_alloc] at hgl
  try simp only [World.size_setCell] at hgl
  go_wp2_with fail
  refine Calls.mono (k1 _) ?_
  rintro e w2 ⟨v1, rfl, hv1, hb0⟩
  have hb1 : Below w.heap.size w w2 := g.below.trans (hb0.mono g.le)
  clear hb0 hgl g
  obtain ⟨p1, q1, he1, -⟩ := hv1.form
  subst he1
  have hs1 := hb1.size
  go_wp2_with fail
  refine Calls.named (fun V hV => ?_)
  have hBV : Below w2.heap.size w2 V := by rw [hV]; exact (by repeat (first | exact Below.refl _ _ | assumption | (refine Below.setCell ?_ (by (first | omega | (simp; done) | (simp; omega) | (simp at *; omega))) _) | (refine Below.alloc ?_ (by (first | omega | (simp; done) | (simp; omega) | (simp at *; omega))) _) | (refine Below.drew ?_) | (refine Gr.into _ ?_ (by (first | omega | (simp; done) | (simp; omega) | (simp at *; omega))))))
  have x : RowAt V (w2.heap.size) 25 [.int .i64 f, .slice p1 B1.length q1] := by rw [hV]; exact (by repeat (first | assumption | exact RowAt.new_at _ _ _ _ (by (first | omega | (simp; done) | (simp; omega) | (simp at *; omega))) | (refine RowAt.alloc ?_ _) | (refine RowAt.gr ?_ _) | (refine RowAt.setOther ?_ _ _ (by (first | omega | (simp; done) | (simp; omega) | (simp at *; omega)))) | (refine RowAt.drew ?_)))
  clear hV
  obtain ⟨xc0, xc1, xf0, xf1, xl⟩ := x.two
  refine Calls.mono (k2 _ _ (hv1.at_ hBV)) ?_
  rintro e w3 ⟨v2, rfl, hv2, hb2⟩
  have hb2 : Below w.heap.size w w3 := hb1.trans ((hBV.mono hs1).trans (hb2.mono (by have := hBV.size; omega)))
  obtain ⟨p2, q2, he2, -⟩ := hv2.form
  subst he2
  have hs2 := hb2.size
  go_wp2_with fail
  refine Calls.named (fun V2 hV2 => ?_)
  have hBV2 : Below w3.heap.size w3 V2 := by rw [hV2]; exact (by repeat (first | exact Below.refl _ _ | assumption | (refine Below.setCell ?_ (by (first | omega | (simp; done) | (simp; omega) | (simp at *; omega))) _) | (refine Below.alloc ?_ (by (first | omega | (simp; done) | (simp; omega) | (simp at *; omega))) _) | (refine Below.drew ?_) | (refine Gr.into _ ?_ (by (first | omega | (simp; done) | (simp; omega) | (simp at *; omega))))))
  have y : RowAt V2 (w3.heap.size) 25 [.int .i64 f, .slice p2 B2.length q2] := by rw [hV2]; exact (by repeat (first | assumption | exact RowAt.new_at _ _ _ _ (by (first | omega | (simp; done) | (simp; omega) | (simp at *; omega))) | (refine RowAt.alloc ?_ _) | (refine RowAt.gr ?_ _) | (refine RowAt.setOther ?_ _ _ (by (first | omega | (simp; done) | (simp; omega) | (simp at *; omega)))) | (refine RowAt.drew ?_)))
  clear hV2
  obtain ⟨yc0, yc1, yf0, yf1, yl⟩ := y.two
  have hv2' := hv2.at_ hBV2
  refine Calls.mono (k3 _ _ hv2') ?_
  rintro e w4 ⟨v3, rfl, hv3, hb3⟩
  have y4 := y.below hb3 yl
  have hv2'' := hv2'.at_ hb3
  have hb3 : Below w.heap.size w w4 := hb2.trans ((hBV2.mono hs2).trans (hb3.mono (by have := hBV2.size; omega)))
  obtain ⟨p3, q3, he3, -⟩ := hv3.form
  subst he3
  have hs3 := hb3.size
  go_wp2_with fail
  refine Calls.named (fun U hU => ?_)
  have hBU : Below w4.heap.size w4 U := by rw [hU]; exact (by repeat (first | exact Below.refl _ _ | assumption | (refine Below.setCell ?_ (by (first | omega | (simp; done) | (simp; omega) | (simp at *; omega))) _) | (refine Below.alloc ?_ (by (first | omega | (simp; done) | (simp; omega) | (simp at *; omega))) _) | (refine Below.drew ?_) | (refine Gr.into _ ?_ (by (first | omega | (simp; done) | (simp; omega) | (simp at *; omega))))))
  have y5 : RowAt U (w3.heap.size) 25 [.int .i64 f, .slice p2 B2.length q2] := by rw [hU]; exact (by repeat (first | assumption | exact RowAt.new_at _ _ _ _ (by (first | omega | (simp; done) | (simp; omega) | (simp at *; omega))) | (refine RowAt.alloc ?_ _) | (refine RowAt.gr ?_ _) | (refine RowAt.setOther ?_ _ _ (by (first | omega | (simp; done) | (simp; omega) | (simp at *; omega)))) | (refine RowAt.drew ?_)))
  have z5 : RowAt U (w4.heap.size) 25 [.int .i64 f, .slice p3 B3.length q3] := by rw [hU]; exact (by repeat (first | assumption | exact RowAt.new_at _ _ _ _ (by (first | omega | (simp; done) | (simp; omega) | (simp at *; omega))) | (refine RowAt.alloc ?_ _) | (refine RowAt.gr ?_ _) | (refine RowAt.setOther ?_ _ _ (by (first | omega | (simp; done) | (simp; omega) | (simp at *; omega)))) | (refine RowAt.drew ?_)))
  clear hU
  obtain ⟨y5c0, y5c1, y5f0, y5f1, y5l⟩ := y5.two
  obtain ⟨z5c0, z5c1, z5f0, z5f1, z5l⟩ := z5.two
  have hvy := hv2''.at_ hBU
  have hvz := hv3.at_ hBU
  have hBU0 : Below w.heap.size w U := hb3.trans (hBU.mono hs3)
  have k6' : ∀ g : Gr U, Calls Try.prog 23 #[HistV f (.slice p2 B2.length q2)] g.world fun e w' => e = .returned (.int .u64 (s : Nat)) ∧ Below g.world.heap.size g.world w' := fun g => k6 _ _ (hvy.at_ g.below)
  have k7' : ∀ g : Gr U, Calls Try.prog 22 #[HistV f (.slice p2 B2.length q2), .int .u64 v] g.world fun e w' => e = .returned (.int .u64 (s : Nat)) ∧ Below g.world.heap.size g.world w' := fun g => k7 _ _ (hvy.at_ g.below)
  have k8' : ∀ g : Gr U, Calls Try.prog 23 #[HistV f (.slice p3 B3.length q3)] g.world fun e w' => e = .returned (.int .u64 (s2 : Nat)) ∧ Below g.world.heap.size g.world w' := fun g => k8 _ _ (hvz.at_ g.below)
  clear k1 k2 k3 k6 k7 k8
  have hl2 : ((B2.length : Nat) : Int) ≤ 1 := by omega
  with_reducible refine Calls.mono (Calls.gr0 (k4 _)) ?_
  rintro e w' ⟨rfl, g, rfl⟩
  have hgl := g.le
  try simp only [World.size_alloc] at hgl
  try simp only [World.size_setCell] at hgl
  go_wp2_with fail
  with_reducible refine Calls.mono (Calls.gr (k6' g)) ?_
  rintro e w' ⟨rfl, g, rfl⟩
  have hgl := g.le
  try simp only [World.size_alloc] at hgl
  try simp only [World.size_setCell] at hgl
  go_wp2_with fail
  with_reducible refine Calls.mono (Calls.gr (k7' g)) ?_
  rintro e w' ⟨rfl, g, rfl⟩
  have hgl := g.le
  try simp only [World.size_alloc] at hgl
  try simp only [World.size_setCell] at hgl
  go_wp2_with fail
  with_reducible refine Calls.mono (Calls.gr (k8' g)) ?_
  rintro e w' ⟨rfl, g, rfl⟩
  have hgl := g.le
  try simp only [World.size_alloc] at hgl
  try simp only [World.size_setCell] at hgl
  go_wp2_with fail
  with_reducible refine Calls.mono (Calls.gr (k5 _)) ?_
  rintro e w' ⟨rfl, g, rfl⟩
  have hgl := g.le
  try simp only [World.size_alloc] at hgl
  try simp only [World.size_setCell] at hgl
  go_wp2_with fail
  go_ret
  exact ⟨by first | rfl | (simp; done) | (simp; omega), hBU0.trans (g.below.mono hBU0.size)⟩
theorem full_law (f : Int) (v n m : Nat) (w : World) (hv : v < 18446744073709551616) (hn : n < 18446744073709551616) (hm : m < 18446744073709551616) :
    Calls Try.prog 6 #[.int .i64 f, .int .u64 v, .int .u64 n, .int .u64 m] w fun e w' => e = .returned (.bool true) ∧ Below w.heap.size w w' := by
  cases h : fineB f
  · exact full_law_no f v n m w h
  · obtain ⟨h1, h2⟩ := fine_bd h
    obtain ⟨n0, rfl⟩ := Int.eq_ofNat_of_zero_le (a := f) h1
    exact full_law_yes n0 v n m w (by omega) hv hn hm
end Go.Proofs.Ytnoemopaplopdaa
