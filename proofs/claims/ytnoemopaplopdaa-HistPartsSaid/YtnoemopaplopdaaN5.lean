/- The walk of the law HistLowers. -/
import Derived.Test.YtnoemopaplopdaaN4
namespace Go.Proofs.Ytnoemopaplopdaa
open Go.RowKit Go.Maps

theorem sum_all (f g : Nat) : ∀ J : List (Nat × Nat), sumP (fun _ => true) (J.map (itemB f)) = sumP (fun _ => true) (J.map (itemB g))
  | [] => rfl
  | x :: J => by simp only [List.map_cons, sumP, itemB, sum_all f g J]
theorem lowers_law_no (f : Int) (l : Value) (w : World) (h : f < 1 ∨ 3 < f) :
    Calls Try.prog 9 #[.int .i64 f, l] w fun e w' => e = .returned (.bool true) ∧ Below w.heap.size w w' := by
  have hd : 1 ≤ f → 3 < f := by omega
  rcases Classical.em (f < 1) with h1 | h1
  all_goals
    go_enter Try.func9, Try.ntmps9
    go_wp2_with fail
    with_reducible refine Calls.mono (Calls.gr0 (shown_any _)) ?_
    rintro e w' ⟨rfl, g, rfl⟩
    have hgl := g.le
    try simp only [World.size_alloc] at hgl
    try simp only [World.size_setCell] at hgl
    go_wp2_with fail
    go_ret
    exact ⟨rfl, (by repeat (first | exact Below.refl _ _ | assumption | (refine Below.setCell ?_ (by (first | omega | (simp; done) | (simp; omega) | (simp at *; omega))) _) | (refine Below.alloc ?_ (by (first | omega | (simp; done) | (simp; omega) | (simp at *; omega))) _) | (refine Below.drew ?_) | (refine Gr.into _ ?_ (by (first | omega | (simp; done) | (simp; omega) | (simp at *; omega))))))⟩
set_option maxRecDepth 100000 in
set_option maxHeartbeats 1000000 in
theorem lowers_law_yes (f : Nat) (p : Option Addr) (n cap : Nat) (J : List (Nat × Nat)) (w : World) (h1 : 1 ≤ f) (h : f ≤ 3) (hmin : min (n : Int) 100 = (J.length : Nat)) (hJ : ItemsAt w.heap.size w (.slice p J.length cap) J) (hJc : J.length ≤ cap) (hJl : J.length ≤ 100) :
    Calls Try.prog 9 #[.int .i64 f, .slice p n cap] w fun e w' => e = .returned (.bool true) ∧ Below w.heap.size w w' := by
  have hfi : (f : Int) ≤ 3 := by omega
  have hfj : (1 : Int) ≤ f := by omega
  have hfw : wrap64 ((f : Int) - 1) = (f : Int) - 1 := by unfold wrap64; omega
  have hcast : ((f - 1 : Nat) : Int) = (f : Int) - 1 := by omega
  have c1 := ofL_canon (f := f) h hJ.lt
  have c2 := ofL_canon (f := f - 1) (by omega) hJ.lt
  have l1 := ofL_length f J
  have k1 : ∀ W, Below w.heap.size w W → Calls Try.prog 27 #[.int .i64 f, .slice p J.length cap] W fun e w' => ∃ v', e = histRes f v' 0 ∧ BinsAt w'.heap.size w' v' (ofL f J) ∧ Below W.heap.size W w' := fun W hW => of_any f _ J W h (hJ.at_ hW) (by omega)
  have k2 : ∀ W, Below w.heap.size w W → Calls Try.prog 27 #[.int .i64 ((f : Int) - 1), .slice p J.length cap] W fun e w' => ∃ v', e = histRes ((f : Int) - 1) v' 0 ∧ BinsAt w'.heap.size w' v' (ofL (f - 1) J) ∧ Below W.heap.size W w' := fun W hW => by
    have := of_any (f - 1) _ J W (by omega) (hJ.at_ hW) (by omega)
    rwa [hcast] at this
  have hlow : lowL (ofL f J) = ofL (f - 1) J := by
    have := low_ofL (f := f - 1) (by omega) hJ.lt
    rwa [show f - 1 + 1 = f by omega] at this
  have k3 : ∀ u W, BinsAt W.heap.size W u (ofL f J) → Calls Try.prog 29 #[HistV f u] W fun e w' => ∃ v', e = histRes ((f : Int) - 1) v' 0 ∧ BinsAt w'.heap.size w' v' (ofL (f - 1) J) ∧ Below W.heap.size W w' := fun u W hu => by
    have := hLower_yes f u _ W hu c1.right (by omega) (by omega)
    rwa [hlow] at this
  have ks : ∀ (y z : Value) W, BinsAt W.heap.size W y (ofL (f - 1) J) → BinsAt W.heap.size W z (ofL (f - 1) J) → Calls Try.prog 28 #[HistV ((f : Int) - 1) y, HistV ((f : Int) - 1) z] W fun e w' => e = .returned (.bool true) ∧ Below W.heap.size W w' := fun y z W hy hz => by
    have := hSame_any ((f : Int) - 1) ((f : Int) - 1) y z _ _ W hy hz
    rwa [show sameH ((f : Int) - 1) ((f : Int) - 1) (ofL (f - 1) J) (ofL (f - 1) J) = true by simp [sameH]] at this
  have htt : totalH ((f : Int) - 1) (ofL (f - 1) J) = totalH f (ofL f J) := by
    have e1 := total_ofL (f := f - 1) (by omega) hJ.lt
    have e2 := total_ofL (f := f) (by omega) hJ.lt
    rw [hcast] at e1
    rw [e1, e2]
    rw [sum_all (f - 1) f J]
  have kt1 : ∀ (z : Value) W, BinsAt W.heap.size W z (ofL f J) → Calls Try.prog 23 #[HistV f z] W fun e w' => e = .returned (.int .u64 (totalH f (ofL f J) : Nat)) ∧ Below W.heap.size W w' := fun z W hz => total_any f z _ W hz
  have kt2 : ∀ (z : Value) W, BinsAt W.heap.size W z (ofL (f - 1) J) → Calls Try.prog 23 #[HistV ((f : Int) - 1) z] W fun e w' => e = .returned (.int .u64 (totalH f (ofL f J) : Nat)) ∧ Below W.heap.size W w' := fun z W hz => by
    have := total_any ((f : Int) - 1) z _ W hz
    rwa [htt] at this
  clear hlow htt hcast
  generalize totalH f (ofL f J) = rt at *
  generalize hB1 : ofL f J = B1 at *
  generalize hB2 : ofL (f - 1) J = B2 at *
  clear hB1 hB2 c1 c2
  have hJc2 : (J.length : Int) ≤ cap := by omega
  have hlo : (0 : Int) ≤ J.length := by omega
  go_enter Try.func9, Try.ntmps9
  go_wp2_with fail
  with_reducible refine Calls.mono (Calls.gr0 (shown_any _)) ?_
  rintro e w' ⟨rfl, g, rfl⟩
  have hgl := g.le
  try simp only [World.size_alloc] at hgl
  try simp only [World.size_setCell] at hgl
  go_wp2_with fail
  refine Calls.mono (k1 _ g.below) ?_
  rintro e w2 ⟨v1, rfl, hv1, hb0⟩
  have hb1 : Below w.heap.size w w2 := g.below.trans (hb0.mono g.le)
  clear hb0 hgl g
  obtain ⟨p1, q1, he1, -⟩ := hv1.form
  subst he1
  have hs1 := hb1.size
  go_wp2_with fail
  refine Calls.named (fun V hV => ?_)
  have hBV : Below w2.heap.size w2 V := by rw [hV]; exact (by repeat (first | exact Below.refl _ _ | assumption | (refine Below.setCell ?_ (by (first | omega | (simp; done) | (simp; omega) | (simp at *; omega))) _) | (refine Below.alloc ?_ (by (first | omega | (simp; done) | (simp; omega) | (simp at *; omega))) _) | (refine Below.drew ?_) | (refine Gr.into _ ?_ (by (first | omega | (simp; done) | (simp; omega) | (simp at *; omega))))))
  have x : RowAt V (w2.heap.size) 25 [.int .i64 f, .slice p1 B1.length q1] := by rw [hV]; exact (by repeat (first | assumption | exact RowAt.new_at _ _ _ _ (by (first | omega | (simp; done) | (simp; omega) | (simp at *; omega))) | (refine RowAt.alloc ?_ _) | (refine RowAt.gr ?_ _) | (refine RowAt.setOther ?_ _ _ (by (first | omega | (simp; done) | (simp; omega) | (simp at *; omega)))) | (refine RowAt.drew ?_)))
  clear hV
  obtain ⟨xc0, xc1, xf0, xf1, xl⟩ := x.two
  have hv1V := hv1.at_ hBV
  have hbV := hb1.trans (hBV.mono hs1)
  have hsV := hbV.size
  refine Calls.mono (k2 _ hbV) ?_
  rintro e w3 ⟨v2, rfl, hv2, hb2⟩
  have x3 := x.below hb2 xl
  have hv13 := hv1V.at_ hb2
  have hb3 : Below w.heap.size w w3 := hbV.trans (hb2.mono hsV)
  obtain ⟨p2, q2, he2, -⟩ := hv2.form
  subst he2
  have hs3 := hb3.size
  obtain ⟨x3c0, x3c1, x3f0, x3f1, x3l⟩ := x3.two
  go_wp2_with fail
  refine Calls.named (fun U hU => ?_)
  have hBU : Below w3.heap.size w3 U := by rw [hU]; exact (by repeat (first | exact Below.refl _ _ | assumption | (refine Below.setCell ?_ (by (first | omega | (simp; done) | (simp; omega) | (simp at *; omega))) _) | (refine Below.alloc ?_ (by (first | omega | (simp; done) | (simp; omega) | (simp at *; omega))) _) | (refine Below.drew ?_) | (refine Gr.into _ ?_ (by (first | omega | (simp; done) | (simp; omega) | (simp at *; omega))))))
  have x5 : RowAt U (w2.heap.size) 25 [.int .i64 f, .slice p1 B1.length q1] := by rw [hU]; exact (by repeat (first | assumption | exact RowAt.new_at _ _ _ _ (by (first | omega | (simp; done) | (simp; omega) | (simp at *; omega))) | (refine RowAt.alloc ?_ _) | (refine RowAt.gr ?_ _) | (refine RowAt.setOther ?_ _ _ (by (first | omega | (simp; done) | (simp; omega) | (simp at *; omega)))) | (refine RowAt.drew ?_)))
  have y5 : RowAt U (w3.heap.size) 25 [.int .i64 ((f : Int) - 1), .slice p2 B2.length q2] := by rw [hU]; exact (by repeat (first | assumption | exact RowAt.new_at _ _ _ _ (by (first | omega | (simp; done) | (simp; omega) | (simp at *; omega))) | (refine RowAt.alloc ?_ _) | (refine RowAt.gr ?_ _) | (refine RowAt.setOther ?_ _ _ (by (first | omega | (simp; done) | (simp; omega) | (simp at *; omega)))) | (refine RowAt.drew ?_)))
  clear hU
  obtain ⟨x5c0, x5c1, x5f0, x5f1, x5l⟩ := x5.two
  obtain ⟨y5c0, y5c1, y5f0, y5f1, y5l⟩ := y5.two
  have hvx := hv13.at_ hBU
  have hvy := hv2.at_ hBU
  have hBU0 : Below w.heap.size w U := hb3.trans (hBU.mono hs3)
  refine Calls.mono (k3 _ _ hvx) ?_
  rintro e w4 ⟨v3, rfl, hv3, hb4⟩
  have x6 := x5.below hb4 x5l
  have y6 := y5.below hb4 y5l
  have hvx6 := hvx.at_ hb4
  have hvy6 := hvy.at_ hb4
  have hsU := hBU0.size
  have hb4' : Below w.heap.size w w4 := hBU0.trans (hb4.mono hsU)
  obtain ⟨p3, q3, he3, -⟩ := hv3.form
  subst he3
  have hs4 := hb4'.size
  obtain ⟨x6c0, x6c1, x6f0, x6f1, x6l⟩ := x6.two
  obtain ⟨y6c0, y6c1, y6f0, y6f1, y6l⟩ := y6.two
  clear k1 k2 k3
  go_wp2_with fail
  refine wp_named (fun T hT => ?_)
  have hBT : Below w4.heap.size w4 T := by rw [hT]; exact (by repeat (first | exact Below.refl _ _ | assumption | (refine Below.setCell ?_ (by (first | omega | (simp; done) | (simp; omega) | (simp at *; omega))) _) | (refine Below.alloc ?_ (by (first | omega | (simp; done) | (simp; omega) | (simp at *; omega))) _) | (refine Below.drew ?_) | (refine Gr.into _ ?_ (by (first | omega | (simp; done) | (simp; omega) | (simp at *; omega))))))
  have x7 : RowAt T (w2.heap.size) 25 [.int .i64 f, .slice p1 B1.length q1] := by rw [hT]; exact (by repeat (first | assumption | exact RowAt.new_at _ _ _ _ (by (first | omega | (simp; done) | (simp; omega) | (simp at *; omega))) | (refine RowAt.alloc ?_ _) | (refine RowAt.gr ?_ _) | (refine RowAt.setOther ?_ _ _ (by (first | omega | (simp; done) | (simp; omega) | (simp at *; omega)))) | (refine RowAt.drew ?_)))
  have y7 : RowAt T (w3.heap.size) 25 [.int .i64 ((f : Int) - 1), .slice p2 B2.length q2] := by rw [hT]; exact (by repeat (first | assumption | exact RowAt.new_at _ _ _ _ (by (first | omega | (simp; done) | (simp; omega) | (simp at *; omega))) | (refine RowAt.alloc ?_ _) | (refine RowAt.gr ?_ _) | (refine RowAt.setOther ?_ _ _ (by (first | omega | (simp; done) | (simp; omega) | (simp at *; omega)))) | (refine RowAt.drew ?_)))
  have z7 : RowAt T (w4.heap.size) 25 [.int .i64 ((f : Int) - 1), .slice p3 B2.length q3] := by rw [hT]; exact (by repeat (first | assumption | exact RowAt.new_at _ _ _ _ (by (first | omega | (simp; done) | (simp; omega) | (simp at *; omega))) | (refine RowAt.alloc ?_ _) | (refine RowAt.gr ?_ _) | (refine RowAt.setOther ?_ _ _ (by (first | omega | (simp; done) | (simp; omega) | (simp at *; omega)))) | (refine RowAt.drew ?_)))
  clear hT
  obtain ⟨x7c0, x7c1, x7f0, x7f1, x7l⟩ := x7.two
  obtain ⟨y7c0, y7c1, y7f0, y7f1, y7l⟩ := y7.two
  obtain ⟨z7c0, z7c1, z7f0, z7f1, z7l⟩ := z7.two
  have hx7 := hvx6.at_ hBT
  have hy7 := hvy6.at_ hBT
  have hz7 := hv3.at_ hBT
  have hBT0 : Below w.heap.size w T := hb4'.trans (hBT.mono hs4)
  have ks' : ∀ g : Gr T, Calls Try.prog 28 #[HistV ((f : Int) - 1) (.slice p2 B2.length q2), HistV ((f : Int) - 1) (.slice p3 B2.length q3)] g.world fun e w' => e = .returned (.bool true) ∧ Below g.world.heap.size g.world w' := fun g => ks _ _ _ (hy7.at_ g.below) (hz7.at_ g.below)
  have kt1' : ∀ g : Gr T, Calls Try.prog 23 #[HistV f (.slice p1 B1.length q1)] g.world fun e w' => e = .returned (.int .u64 (rt : Nat)) ∧ Below g.world.heap.size g.world w' := fun g => kt1 _ _ (hx7.at_ g.below)
  have kt2' : ∀ g : Gr T, Calls Try.prog 23 #[HistV ((f : Int) - 1) (.slice p2 B2.length q2)] g.world fun e w' => e = .returned (.int .u64 (rt : Nat)) ∧ Below g.world.heap.size g.world w' := fun g => kt2 _ _ (hy7.at_ g.below)
  clear ks kt1 kt2
  refine wp_region_gr (by kernel_rfl) (by kernel_rfl) ?_
  repeat (go_big_quiet_step (first | (go_at_call 28; exact Calls.gr (ks' _)) | (go_at_call 23; with_reducible exact Calls.gr (kt1' _)) | (go_at_call 23; with_reducible exact Calls.gr (kt2' _))))
  refine wpQuiet_nil ?_
  intro g2
  go_wp2
  go_ret
  exact ⟨by first | rfl | (simp; done) | (simp; omega), hBT0.trans (g2.below.mono hBT0.size)⟩
theorem lowers_law (f : Int) (p : Option Addr) (n cap : Nat) (J : List (Nat × Nat)) (w : World) (hc : n ≤ cap) (hn : J.length = min n 100) (hJ : ItemsAt w.heap.size w (.slice p J.length cap) J) :
    Calls Try.prog 9 #[.int .i64 f, .slice p n cap] w fun e w' => e = .returned (.bool true) ∧ Below w.heap.size w w' := by
  by_cases h : f < 1 ∨ 3 < f
  · exact lowers_law_no f _ w h
  · obtain ⟨n0, rfl⟩ := Int.eq_ofNat_of_zero_le (a := f) (by omega)
    exact lowers_law_yes n0 p n cap J w (by omega) (by omega) (by omega) hJ (by omega) (by omega)
end Go.Proofs.Ytnoemopaplopdaa
