/- The walk of the law HistGrows. -/
import Derived.Test.YtnoemopaplopdaaN3
import Derived.Test.YtnoemopaplopdaaJO
namespace Go.Proofs.Ytnoemopaplopdaa
open Go.RowKit Go.Maps

theorem ItemsAt.form {B : Nat} {w : World} {v : Value} {I : List (Nat × Nat)} (h : ItemsAt B w v I) : ∃ p cap, v = .slice p I.length cap ∧ I.length ≤ cap ∧ I.length ≤ 4611686018427387904 := by
  obtain ⟨h1, h2, p, cap, h3, h4, h5⟩ := h
  exact ⟨p, cap, h3, h4, h2⟩
theorem ItemsAt.take {B : Nat} {w : World} {p : Option Addr} {n cap : Nat} {I : List (Nat × Nat)} (h : ItemsAt B w (.slice p n cap) I) (k : Nat) : ItemsAt B w (.slice p (I.take k).length cap) (I.take k) := by
  obtain ⟨h1, h2, p, cap, h3, h4, h5⟩ := h
  obtain ⟨rfl, rfl, rfl⟩ := by simpa using h3
  refine ⟨fun b hb => h1 b (List.mem_of_mem_take hb), by simp; omega, _, _, rfl, by simp; omega, fun hne => ?_⟩
  obtain ⟨a, off, e1, e2, e3⟩ := h5 (by rintro rfl; simp at hne)
  refine ⟨a, off, e1, e2, fun i hi => ?_⟩
  rw [List.getElem_take]
  exact e3 i (by simp at hi; omega)
theorem ItemsAt.lt {B : Nat} {w : World} {v : Value} {I : List (Nat × Nat)} (h : ItemsAt B w v I) : ∀ x ∈ I, x.1 < 2 ^ 64 := fun x hx => (h.1 x hx).1
theorem grows_law_no (f : Int) (l : Value) (v u : Nat) (w : World) (h : fineB f = false) :
    Calls Try.prog 7 #[.int .i64 f, l, .int .u64 v, .int .u64 u] w fun e w' => e = .returned (.bool true) ∧ Below w.heap.size w w' := by
  have hd := fine_no h
  rcases Classical.em (f < 0) with h1 | h1
  all_goals
    go_enter Try.func7, Try.ntmps7
    go_wp2_with fail
    with_reducible refine Calls.mono (Calls.gr0 (shown_any _)) ?_
    rintro e w' ⟨rfl, g, rfl⟩
    have hgl := g.le
    try simp only [World.size_alloc] at hgl
    try simp only [World.size_setCell] at hgl
    go_wp2_with fail
    go_ret
    exact ⟨rfl, (by repeat (first | exact Below.refl _ _ | assumption | (refine Below.setCell ?_ (by (first | omega | (simp; done) | (simp; omega) | (simp at *; omega))) _) | (refine Below.alloc ?_ (by (first | omega | (simp; done) | (simp; omega) | (simp at *; omega))) _) | (refine Below.drew ?_) | (refine Gr.into _ ?_ (by (first | omega | (simp; done) | (simp; omega) | (simp at *; omega))))))⟩
set_option maxRecDepth 100000 in
set_option maxHeartbeats 1000000 in
theorem grows_law_yes (f : Nat) (p : Option Addr) (n cap : Nat) (J : List (Nat × Nat)) (v u : Nat) (w : World) (h : f ≤ 3) (hmin : min (n : Int) 100 = (J.length : Nat)) (hJ : ItemsAt w.heap.size w (.slice p J.length cap) J) (hJc : J.length ≤ cap) (hJl : J.length ≤ 100) (hv : v < 18446744073709551616) (hu : u < 18446744073709551616) :
    Calls Try.prog 7 #[.int .i64 f, .slice p n cap, .int .u64 v, .int .u64 u] w fun e w' => e = .returned (.bool true) ∧ Below w.heap.size w w' := by
  have hf : fineB f = true := by simp [fineB]; omega
  have hfi : (f : Int) ≤ 3 := by omega
  have c1 := ofL_canon (f := f) h hJ.lt
  have l1 := ofL_length f J
  have k1 : ∀ W, Below w.heap.size w W → Calls Try.prog 27 #[.int .i64 f, .slice p J.length cap] W fun e w' => ∃ v', e = histRes f v' 0 ∧ BinsAt w'.heap.size w' v' (ofL f J) ∧ Below W.heap.size W w' := fun W hW => of_any f _ J W h (hJ.at_ hW) (by omega)
  have k3 : ∀ u W, BinsAt W.heap.size W u (ofL f J) → Calls Try.prog 25 #[HistV f u, HistV f u] W fun e w' => ∃ v', e = histRes f v' 0 ∧ BinsAt w'.heap.size w' v' ((ofL f J).foldl addB ((ofL f J).foldl addB [])) ∧ Below W.heap.size W w' := fun u W hu => hMerge_yes f u u _ _ W hu hu c1.right c1.right (by omega) (by omega)
  have kr : ∀ (x : Nat) (u : Value) W, x < 18446744073709551616 → BinsAt W.heap.size W u (ofL f J) → Calls Try.prog 22 #[HistV f u, .int .u64 x] W fun e w' => e = .returned (.int .u64 (rankH f (ofL f J) x : Nat)) ∧ Below W.heap.size W w' := fun x u W hx hu => rank_any f x u _ W hu hx
  have kmin : ∀ (z : Value) W, BinsAt W.heap.size W z (ofL f J) → Calls Try.prog 22 #[HistV f z, .int .u64 (min (v : Int) u)] W fun e w' => e = .returned (.int .u64 (rankH f (ofL f J) (min v u) : Nat)) ∧ Below W.heap.size W w' := fun z W hz => by
    have := kr (min v u) z W (by omega) hz
    rwa [show ((min v u : Nat) : Int) = min (v : Int) u by omega] at this
  have kmax : ∀ (z : Value) W, BinsAt W.heap.size W z (ofL f J) → Calls Try.prog 22 #[HistV f z, .int .u64 (max (v : Int) u)] W fun e w' => e = .returned (.int .u64 (rankH f (ofL f J) (max v u) : Nat)) ∧ Below W.heap.size W w' := fun z W hz => by
    have := kr (max v u) z W (by omega) hz
    rwa [show ((max v u : Nat) : Int) = max (v : Int) u by omega] at this
  have kv := fun z W hz => kr v z W hv hz
  have ktop : ∀ (z : Value) W, BinsAt W.heap.size W z (ofL f J) → Calls Try.prog 22 #[HistV f z, .int .u64 18446744073709551615] W fun e w' => e = .returned (.int .u64 (totalH f (ofL f J) : Nat)) ∧ Below W.heap.size W w' := fun z W hz => kr 18446744073709551615 z W (by decide) hz
  have kt : ∀ (z : Value) W, BinsAt W.heap.size W z (ofL f J) → Calls Try.prog 23 #[HistV f z] W fun e w' => e = .returned (.int .u64 (totalH f (ofL f J) : Nat)) ∧ Below W.heap.size W w' := fun z W hz => total_any f z _ W hz
  have km : ∀ (z : Value) W, BinsAt W.heap.size W z ((ofL f J).foldl addB ((ofL f J).foldl addB [])) → Calls Try.prog 22 #[HistV f z, .int .u64 v] W fun e w' => e = .returned (.int .u64 (satU (rankH f (ofL f J) v) (rankH f (ofL f J) v) : Nat)) ∧ Below W.heap.size W w' := fun z W hz => by
    have := rank_any f v z _ W hz hv
    rwa [rank_merge c1 c1] at this
  have hrv : rankH f (ofL f J) v ≤ maxU := by rw [rank_sum c1.right]; exact Nat.min_le_right _ _
  have kp : ∀ W, Calls Try.prog 26 #[.int .u64 (rankH f (ofL f J) v : Nat), .int .u64 (rankH f (ofL f J) v : Nat)] W fun e w' => e = .returned (.int .u64 (satU (rankH f (ofL f J) v) (rankH f (ofL f J) v) : Nat)) ∧ Below W.heap.size W w' := fun W => plus_any _ _ W hrv hrv
  have hab : rankH f (ofL f J) (min v u) ≤ rankH f (ofL f J) (max v u) := rank_mono h c1 (by omega) (by omega)
  have hbt : rankH f (ofL f J) (max v u) ≤ totalH f (ofL f J) := rank_mono h c1 (by omega) (by decide)
  have habI : ((rankH f (ofL f J) (min v u) : Nat) : Int) ≤ (rankH f (ofL f J) (max v u) : Nat) := by omega
  have hbtI : ((rankH f (ofL f J) (max v u) : Nat) : Int) ≤ (totalH f (ofL f J) : Nat) := by omega
  clear kr hab hbt
  generalize rankH f (ofL f J) (min v u) = ra at *
  generalize rankH f (ofL f J) (max v u) = rb at *
  generalize rankH f (ofL f J) v = rv at *
  generalize totalH f (ofL f J) = rt at *
  generalize satU rv rv = s2 at *
  generalize hB2 : (ofL f J).foldl addB ((ofL f J).foldl addB []) = B2 at *
  generalize hB1 : ofL f J = B1 at *
  clear hB1 hB2 c1
  have hJc2 : (J.length : Int) ≤ cap := by omega
  have hlo : (0 : Int) ≤ J.length := by omega
  go_enter Try.func7, Try.ntmps7
  go_wp2_with fail
  with_reducible refine Calls.mono (Calls.gr0 (shown_any _)) ?_
  rintro e w' ⟨rfl, g, rfl⟩
  have hgl := g.le
  try simp only [World.size_alloc] at hgl
  try simp only [World.size_setCell] at hgl
  go_wp2_with fail
  refine Calls.mono (k1 _ g.below) ?_
  rintro e w2 ⟨v1, rfl, hv1, hb0⟩
  have hb1 : Below w.heap.size w w2 := g.below.trans (hb0.mono g.le)
  clear hb0 hgl g
  obtain ⟨p1, q1, he1, -⟩ := hv1.form
  subst he1
  have hs1 := hb1.size
  go_wp2_with fail
  refine Calls.named (fun V hV => ?_)
  have hBV : Below w2.heap.size w2 V := by rw [hV]; exact (by repeat (first | exact Below.refl _ _ | assumption | (refine Below.setCell ?_ (by (first | omega | (simp; done) | (simp; omega) | (simp at *; omega))) _) | (refine Below.alloc ?_ (by (first | omega | (simp; done) | (simp; omega) | (simp at *; omega))) _) | (refine Below.drew ?_) | (refine Gr.into _ ?_ (by (first | omega | (simp; done) | (simp; omega) | (simp at *; omega))))))
  have x : RowAt V (w2.heap.size) 25 [.int .i64 f, .slice p1 B1.length q1] := by rw [hV]; exact (by repeat (first | assumption | exact RowAt.new_at _ _ _ _ (by (first | omega | (simp; done) | (simp; omega) | (simp at *; omega))) | (refine RowAt.alloc ?_ _) | (refine RowAt.gr ?_ _) | (refine RowAt.setOther ?_ _ _ (by (first | omega | (simp; done) | (simp; omega) | (simp at *; omega)))) | (refine RowAt.drew ?_)))
  clear hV
  obtain ⟨xc0, xc1, xf0, xf1, xl⟩ := x.two
  have hv1V := hv1.at_ hBV
  refine Calls.mono (k3 _ _ hv1V) ?_
  rintro e w3 ⟨v2, rfl, hv2, hb2⟩
  have x3 := x.below hb2 xl
  have hv13 := hv1V.at_ hb2
  have hb3 : Below w.heap.size w w3 := hb1.trans ((hBV.mono hs1).trans (hb2.mono (by have := hBV.size; omega)))
  obtain ⟨p2, q2, he2, -⟩ := hv2.form
  subst he2
  have hs3 := hb3.size
  obtain ⟨x3c0, x3c1, x3f0, x3f1, x3l⟩ := x3.two
  go_wp2_with fail
  refine Calls.named (fun U hU => ?_)
  have hBU : Below w3.heap.size w3 U := by rw [hU]; exact (by repeat (first | exact Below.refl _ _ | assumption | (refine Below.setCell ?_ (by (first | omega | (simp; done) | (simp; omega) | (simp at *; omega))) _) | (refine Below.alloc ?_ (by (first | omega | (simp; done) | (simp; omega) | (simp at *; omega))) _) | (refine Below.drew ?_) | (refine Gr.into _ ?_ (by (first | omega | (simp; done) | (simp; omega) | (simp at *; omega))))))
  have x5 : RowAt U (w2.heap.size) 25 [.int .i64 f, .slice p1 B1.length q1] := by rw [hU]; exact (by repeat (first | assumption | exact RowAt.new_at _ _ _ _ (by (first | omega | (simp; done) | (simp; omega) | (simp at *; omega))) | (refine RowAt.alloc ?_ _) | (refine RowAt.gr ?_ _) | (refine RowAt.setOther ?_ _ _ (by (first | omega | (simp; done) | (simp; omega) | (simp at *; omega)))) | (refine RowAt.drew ?_)))
  have y5 : RowAt U (w3.heap.size) 25 [.int .i64 f, .slice p2 B2.length q2] := by rw [hU]; exact (by repeat (first | assumption | exact RowAt.new_at _ _ _ _ (by (first | omega | (simp; done) | (simp; omega) | (simp at *; omega))) | (refine RowAt.alloc ?_ _) | (refine RowAt.gr ?_ _) | (refine RowAt.setOther ?_ _ _ (by (first | omega | (simp; done) | (simp; omega) | (simp at *; omega)))) | (refine RowAt.drew ?_)))
  clear hU
  obtain ⟨x5c0, x5c1, x5f0, x5f1, x5l⟩ := x5.two
  obtain ⟨y5c0, y5c1, y5f0, y5f1, y5l⟩ := y5.two
  have hvx := hv13.at_ hBU
  have hvy := hv2.at_ hBU
  have hBU0 : Below w.heap.size w U := hb3.trans (hBU.mono hs3)
  clear k1 k3
  with_reducible refine Calls.mono (Calls.gr0 (kmin _ _ hvx)) ?_
  rintro e w' ⟨rfl, g, rfl⟩
  have hgl := g.le
  try simp only [World.size_alloc] at hgl
  try simp only [World.size_setCell] at hgl
  go_wp2_with fail
  with_reducible refine Calls.mono (Calls.gr (kmax _ _ (hvx.at_ g.below))) ?_
  rintro e w' ⟨rfl, g, rfl⟩
  have hgl := g.le
  try simp only [World.size_alloc] at hgl
  try simp only [World.size_setCell] at hgl
  go_wp2_with fail
  have kt' : ∀ g : Gr U, Calls Try.prog 23 #[HistV f (.slice p1 B1.length q1)] g.world fun e w' => e = .returned (.int .u64 (rt : Nat)) ∧ Below g.world.heap.size g.world w' := fun g => kt _ _ (hvx.at_ g.below)
  have km' : ∀ g : Gr U, Calls Try.prog 22 #[HistV f (.slice p2 B2.length q2), .int .u64 v] g.world fun e w' => e = .returned (.int .u64 (s2 : Nat)) ∧ Below g.world.heap.size g.world w' := fun g => km _ _ (hvy.at_ g.below)
  have kv' : ∀ g : Gr U, Calls Try.prog 22 #[HistV f (.slice p1 B1.length q1), .int .u64 v] g.world fun e w' => e = .returned (.int .u64 (rv : Nat)) ∧ Below g.world.heap.size g.world w' := fun g => kv _ _ (hvx.at_ g.below)
  have ktop' : ∀ g : Gr U, Calls Try.prog 22 #[HistV f (.slice p1 B1.length q1), .int .u64 18446744073709551615] g.world fun e w' => e = .returned (.int .u64 (rt : Nat)) ∧ Below g.world.heap.size g.world w' := fun g => ktop _ _ (hvx.at_ g.below)
  clear kt km kv ktop kmin kmax
  refine wp_region_gr' (by kernel_rfl) (by kernel_rfl) ?_
  repeat (go_big_quiet_step (first | (go_at_call 23; exact Calls.gr (kt' _)) | (go_at_call 22; with_reducible exact Calls.gr (km' _)) | (go_at_call 22; with_reducible exact Calls.gr (kv' _)) | (go_at_call 22; with_reducible exact Calls.gr (ktop' _)) | (go_at_call 26; exact Calls.gr (kp _))))
  refine wpQuiet_nil ?_
  intro g2
  go_wp2
  go_ret
  exact ⟨by first | rfl | (simp; done) | (simp; omega), hBU0.trans (g2.below.mono hBU0.size)⟩
theorem grows_law (f : Int) (p : Option Addr) (n cap : Nat) (J : List (Nat × Nat)) (v u : Nat) (w : World) (hc : n ≤ cap) (hn : J.length = min n 100) (hJ : ItemsAt w.heap.size w (.slice p J.length cap) J) (hv : v < 18446744073709551616) (hu : u < 18446744073709551616) :
    Calls Try.prog 7 #[.int .i64 f, .slice p n cap, .int .u64 v, .int .u64 u] w fun e w' => e = .returned (.bool true) ∧ Below w.heap.size w w' := by
  cases h : fineB f
  · exact grows_law_no f _ v u w h
  · obtain ⟨h1, h2⟩ := fine_bd h
    obtain ⟨n0, rfl⟩ := Int.eq_ofNat_of_zero_le (a := f) h1
    exact grows_law_yes n0 p n cap J v u w (by omega) (by omega) hJ (by omega) (by omega) hv hu
end Go.Proofs.Ytnoemopaplopdaa
