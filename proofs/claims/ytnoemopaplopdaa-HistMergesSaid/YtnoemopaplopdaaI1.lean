/- Package hist: Merge. -/
import Derived.Test.YtnoemopaplopdaaHL
namespace Go.Proofs.Ytnoemopaplopdaa
open Go.RowKit Go.Maps

theorem hMerge_no1 (f h : Int) (v u : Value) (L : List (Int × Nat)) (w : World) (hL : BinsAt w.heap.size w v L) (h0 : rightL f L = false) :
    Calls Try.prog 25 #[HistV f v, HistV h u] w fun e w' => e = histRes 0 (.slice none 0 0) 90 ∧ Below w.heap.size w w' := by
  have hS : ∀ W, Below w.heap.size w W → Calls Try.prog 37 #[HistV f v] W fun e w' => e = .returned (.tuple #[.pointer none, .iface 73 (.agg #[])]) ∧ Below W.heap.size W w' := fun W hb => start_no f v L W (hL.at_ hb) h0
  go_enter Try.func25, Try.ntmps25
  go_wp2_with fail
  with_reducible refine Calls.mono (Calls.gr0 (hS _ (by repeat (first | exact Below.refl _ _ | assumption | (refine Below.setCell ?_ (by (first | omega | (simp; done) | (simp; omega) | (simp at *; omega))) _) | (refine Below.alloc ?_ (by (first | omega | (simp; done) | (simp; omega) | (simp at *; omega))) _) | (refine Below.drew ?_) | (refine Gr.into _ ?_ (by (first | omega | (simp; done) | (simp; omega) | (simp at *; omega)))))))) ?_
  rintro e w' ⟨rfl, g, rfl⟩
  have hgl := g.le
  try simp only [World.size_alloc] at hgl
  try simp only [World.size_setCell] at hgl
  go_wp2_with fail
  with_reducible refine Calls.mono (Calls.gr (told_wrong _)) ?_
  rintro e w' ⟨rfl, g, rfl⟩
  have hgl := g.le
  try simp only [World.size_alloc] at hgl
  try simp only [World.size_setCell] at hgl
  go_wp2_with fail
  exact bodyPost_ret (v := .tuple #[HistV 0 (.slice none 0 0), .int .i64 90]) (by simp [results, Try.results25, go_sem]) rfl ⟨rfl, (by repeat (first | exact Below.refl _ _ | assumption | (refine Below.setCell ?_ (by (first | omega | (simp; done) | (simp; omega) | (simp at *; omega))) _) | (refine Below.alloc ?_ (by (first | omega | (simp; done) | (simp; omega) | (simp at *; omega))) _) | (refine Below.drew ?_) | (refine Gr.into _ ?_ (by (first | omega | (simp; done) | (simp; omega) | (simp at *; omega))))))⟩
theorem hMerge_no2 (f h : Int) (v u : Value) (L K : List (Int × Nat)) (w : World) (hL : BinsAt w.heap.size w v L) (hK : BinsAt w.heap.size w u K) (h0 : rightL f L = true) (h1 : rightL h K = false ∨ f ≠ h) :
    Calls Try.prog 25 #[HistV f v, HistV h u] w fun e w' => e = histRes 0 (.slice none 0 0) 90 ∧ Below w.heap.size w w' := by
  go_enter Try.func25, Try.ntmps25
  go_wp2_with fail
  refine Calls.mono (start_yes f v L _ (hL.at_ (by repeat (first | exact Below.refl _ _ | assumption | (refine Below.setCell ?_ (by (first | omega | (simp; done) | (simp; omega) | (simp at *; omega))) _) | (refine Below.alloc ?_ (by (first | omega | (simp; done) | (simp; omega) | (simp at *; omega))) _) | (refine Below.drew ?_) | (refine Gr.into _ ?_ (by (first | omega | (simp; done) | (simp; omega) | (simp at *; omega))))))) h0) ?_
  rintro e w2 ⟨bw, bm, rfl, hbw, hbm, hC, hr, hb⟩
  simp only [World.size_alloc] at hb hbw hbm
  have xr : RowAt w2 w.heap.size 25 [.int .i64 f, v] := (((RowAt.new_at w #[.int .i64 f, v] 25 w.heap.size rfl).alloc _).alloc _).below hb (by omega)
  have yr : RowAt w2 (w.heap.size + 1) 25 [.int .i64 h, u] := ((RowAt.new_at (w.alloc (.cells #[.int .i64 f, v] 25)) #[.int .i64 h, u] 25 (w.heap.size + 1) (by simp)).alloc _).below hb (by omega)
  have rr : RowAt w2 (w.heap.size + 1 + 1) 25 [.int .i64 0, .slice none 0 0] := (RowAt.new_at ((w.alloc (.cells #[.int .i64 f, v] 25)).alloc (.cells #[.int .i64 h, u] 25)) #[.int .i64 0, .slice none 0 0] 25 (w.heap.size + 1 + 1) (by simp)).below hb (by omega)
  have hb0 : Below w.heap.size w w2 := Below.trans (by repeat (first | exact Below.refl _ _ | assumption | (refine Below.setCell ?_ (by (first | omega | (simp; done) | (simp; omega) | (simp at *; omega))) _) | (refine Below.alloc ?_ (by (first | omega | (simp; done) | (simp; omega) | (simp at *; omega))) _) | (refine Below.drew ?_) | (refine Gr.into _ ?_ (by (first | omega | (simp; done) | (simp; omega) | (simp at *; omega)))))) (hb.mono (by omega))
  have hbs := hb.size
  simp only [World.size_alloc] at hbs
  have hK2 := hK.at_ hb0
  clear hb
  obtain ⟨xc0, xc1, xf0, xf1, xl⟩ := xr.two
  obtain ⟨yc0, yc1, yf0, yf1, yl⟩ := yr.two
  obtain ⟨rc0, rc1, rf0, rf1, rl⟩ := rr.two
  have hR := fun g : Gr w2 => right_any h u K g.world (hK2.at_ g.below)
  have hR0 := right_any h u K w2 hK2
  cases hk : rightL h K
  · rw [hk] at hR0
    go_wp2_with fail
    with_reducible refine Calls.mono (Calls.gr0 (hR0)) ?_
    rintro e w' ⟨rfl, g, rfl⟩
    have hgl := g.le
    try simp only [World.size_alloc] at hgl
    try simp only [World.size_setCell] at hgl
    go_wp2_with fail
    with_reducible refine Calls.mono (Calls.gr (told_wrong _)) ?_
    rintro e w' ⟨rfl, g, rfl⟩
    have hgl := g.le
    try simp only [World.size_alloc] at hgl
    try simp only [World.size_setCell] at hgl
    go_wp2_with fail
    exact bodyPost_ret (v := .tuple #[HistV 0 (.slice none 0 0), .int .i64 90]) (by simp [results, Try.results25, go_sem, rc0, rc1, rl]) rfl ⟨rfl, (by repeat (first | exact Below.refl _ _ | assumption | (refine Below.setCell ?_ (by (first | omega | (simp; done) | (simp; omega) | (simp at *; omega))) _) | (refine Below.alloc ?_ (by (first | omega | (simp; done) | (simp; omega) | (simp at *; omega))) _) | (refine Below.drew ?_) | (refine Gr.into _ ?_ (by (first | omega | (simp; done) | (simp; omega) | (simp at *; omega))))))⟩
  · rw [hk] at hR0 h1
    have h1 : f ≠ h := h1.resolve_left (by simp)
    have h2 : (f == h) = false := by simpa using h1
    go_wp2_with fail
    with_reducible refine Calls.mono (Calls.gr0 (hR0)) ?_
    rintro e w' ⟨rfl, g, rfl⟩
    have hgl := g.le
    try simp only [World.size_alloc] at hgl
    try simp only [World.size_setCell] at hgl
    go_wp2_with fail
    with_reducible refine Calls.mono (Calls.gr (told_wrong _)) ?_
    rintro e w' ⟨rfl, g, rfl⟩
    have hgl := g.le
    try simp only [World.size_alloc] at hgl
    try simp only [World.size_setCell] at hgl
    go_wp2_with fail
    exact bodyPost_ret (v := .tuple #[HistV 0 (.slice none 0 0), .int .i64 90]) (by simp [results, Try.results25, go_sem, rc0, rc1, rl]) rfl ⟨rfl, (by repeat (first | exact Below.refl _ _ | assumption | (refine Below.setCell ?_ (by (first | omega | (simp; done) | (simp; omega) | (simp at *; omega))) _) | (refine Below.alloc ?_ (by (first | omega | (simp; done) | (simp; omega) | (simp at *; omega))) _) | (refine Below.drew ?_) | (refine Gr.into _ ?_ (by (first | omega | (simp; done) | (simp; omega) | (simp at *; omega))))))⟩
theorem hMerge_yes (f : Int) (v u : Value) (L K : List (Int × Nat)) (w : World) (hL : BinsAt w.heap.size w v L) (hK : BinsAt w.heap.size w u K) (h0 : rightL f L = true) (h1 : rightL f K = true) (hlen : L.length ≤ 1000000000000) (hlenK : K.length ≤ 1000000000000) :
    Calls Try.prog 25 #[HistV f v, HistV f u] w fun e w' => ∃ v', e = histRes f v' 0 ∧ BinsAt w'.heap.size w' v' (K.foldl addB (L.foldl addB [])) ∧ Below w.heap.size w w' := by
  have hG := hL.good
  have hlen2 := addBs_length L []
  simp only [List.length_nil, Nat.zero_add] at hlen2
  have hG3 : Good (K.foldl addB (L.foldl addB [])) := hG.addBs fun b hb => ⟨(hK.1 b hb).1, (hK.1 b hb).2.1⟩
  have hlen3 := addBs_length K (L.foldl addB [])
  go_enter Try.func25, Try.ntmps25
  go_wp2_with fail
  refine Calls.mono (start_yes f v L _ (hL.at_ (by repeat (first | exact Below.refl _ _ | assumption | (refine Below.setCell ?_ (by (first | omega | (simp; done) | (simp; omega) | (simp at *; omega))) _) | (refine Below.alloc ?_ (by (first | omega | (simp; done) | (simp; omega) | (simp at *; omega))) _) | (refine Below.drew ?_) | (refine Gr.into _ ?_ (by (first | omega | (simp; done) | (simp; omega) | (simp at *; omega))))))) h0) ?_
  rintro e w2 ⟨bw, bm, rfl, hbw, hbm, hC, hr, hb⟩
  generalize hM : L.foldl addB [] = M at *
  simp only [World.size_alloc] at hb hbw hbm
  have xr : RowAt w2 w.heap.size 25 [.int .i64 f, v] := (((RowAt.new_at w #[.int .i64 f, v] 25 w.heap.size rfl).alloc _).alloc _).below hb (by omega)
  have yr : RowAt w2 (w.heap.size + 1) 25 [.int .i64 f, u] := ((RowAt.new_at (w.alloc (.cells #[.int .i64 f, v] 25)) #[.int .i64 f, u] 25 (w.heap.size + 1) (by simp)).alloc _).below hb (by omega)
  have rr : RowAt w2 (w.heap.size + 1 + 1) 25 [.int .i64 0, .slice none 0 0] := (RowAt.new_at ((w.alloc (.cells #[.int .i64 f, v] 25)).alloc (.cells #[.int .i64 f, u] 25)) #[.int .i64 0, .slice none 0 0] 25 (w.heap.size + 1 + 1) (by simp)).below hb (by omega)
  have hb0 : Below w.heap.size w w2 := Below.trans (by repeat (first | exact Below.refl _ _ | assumption | (refine Below.setCell ?_ (by (first | omega | (simp; done) | (simp; omega) | (simp at *; omega))) _) | (refine Below.alloc ?_ (by (first | omega | (simp; done) | (simp; omega) | (simp at *; omega))) _) | (refine Below.drew ?_) | (refine Gr.into _ ?_ (by (first | omega | (simp; done) | (simp; omega) | (simp at *; omega)))))) (hb.mono (by omega))
  have hbs := hb.size
  simp only [World.size_alloc] at hbs
  have hK2 := hK.at_ hb0
  clear hb
  obtain ⟨xc0, xc1, xf0, xf1, xl⟩ := xr.two
  obtain ⟨yc0, yc1, yf0, yf1, yl⟩ := yr.two
  obtain ⟨rc0, rc1, rf0, rf1, rl⟩ := rr.two
  have hR0 := right_any f u K w2 hK2
  rw [h1] at hR0
  go_wp2_with fail
  with_reducible refine Calls.mono (Calls.gr0 (hR0)) ?_
  rintro e w' ⟨rfl, g, rfl⟩
  have hgl := g.le
  try simp only [World.size_alloc] at hgl
  try simp only [World.size_setCell] at hgl
  go_wp2_with fail
  refine Calls.named (fun V hV => ?_)
  have hBV : Below w2.heap.size w2 V := by rw [hV]; exact (by repeat (first | exact Below.refl _ _ | assumption | (refine Below.setCell ?_ (by (first | omega | (simp; done) | (simp; omega) | (simp at *; omega))) _) | (refine Below.alloc ?_ (by (first | omega | (simp; done) | (simp; omega) | (simp at *; omega))) _) | (refine Below.drew ?_) | (refine Gr.into _ ?_ (by (first | omega | (simp; done) | (simp; omega) | (simp at *; omega))))))
  have rr2 : RowAt V (w.heap.size + 1 + 1) 25 [.int .i64 0, .slice none 0 0] := by rw [hV]; exact (by repeat (first | assumption | exact RowAt.new_at _ _ _ _ (by (first | omega | (simp; done) | (simp; omega) | (simp at *; omega))) | (refine RowAt.alloc ?_ _) | (refine RowAt.gr ?_ _) | (refine RowAt.setOther ?_ _ _ (by (first | omega | (simp; done) | (simp; omega) | (simp at *; omega)))) | (refine RowAt.drew ?_)))
  have hr2 : RowAt V (bw) 78 [.map (some bm), .int .i64 f] := by rw [hV]; exact (by repeat (first | assumption | exact RowAt.new_at _ _ _ _ (by (first | omega | (simp; done) | (simp; omega) | (simp at *; omega))) | (refine RowAt.alloc ?_ _) | (refine RowAt.gr ?_ _) | (refine RowAt.setOther ?_ _ _ (by (first | omega | (simp; done) | (simp; omega) | (simp at *; omega)))) | (refine RowAt.drew ?_)))
  clear hV
  obtain ⟨rr2c0, rr2c1, rr2f0, rr2f1, rr2l⟩ := rr2.two
  obtain ⟨hr2c0, hr2c1, hr2f0, hr2f1, hr2l⟩ := hr2.two
  have hCV : CountsAt V bm M := hC.below hBV hC.lt
  refine Calls.mono (add_any (w.heap.size + 3) bw bm f u K M V (hK2.at_ hBV) (by omega) hr2 hCV hG.fit (by omega) (by omega)) ?_
  rintro e w3 ⟨rfl, hC3, hr3, hB3, hO3⟩
  have rr3 := rr2.below hB3 (by omega)
  have hb3s := hB3.size
  go_wp2_with fail
  refine Calls.mono (end_any bw bm f _ w3 hr3 hC3 hG3.rising (by omega) hG3.fits) ?_
  rintro e w4 ⟨v', rfl, hv', hnew, hb4⟩
  have rr4 := rr3.below hb4 (by omega)
  obtain ⟨r4c0, r4c1, r4f0, r4f1, r4l⟩ := rr4.two
  have hB4 : Below w.heap.size w w4 := hb0.trans ((hBV.mono (by omega)).trans ((hB3.mono (by omega)).trans (hb4.mono (by omega))))
  generalize hN : K.foldl addB M = N at *
  have hv2 : ∀ u1 u2 : Value, BinsAt ((w4.setCell ⟨w.heap.size + 1 + 1, 0, none⟩ u1).setCell ⟨w.heap.size + 1 + 1, 1, none⟩ u2).heap.size ((w4.setCell ⟨w.heap.size + 1 + 1, 0, none⟩ u1).setCell ⟨w.heap.size + 1 + 1, 1, none⟩ u2) v' N := fun u1 u2 =>
    (hv'.setOther _ _ (fun k hk => by have := hnew k hk; show w.heap.size + 1 + 1 ≠ k; omega)).setOther _ _ (fun k hk => by have := hnew k hk; show w.heap.size + 1 + 1 ≠ k; omega) |>.mono (by simp)
  subst hN hM
  obtain ⟨n1, n2, ⟨a', rfl, hnil⟩ | ⟨a', o', c', rfl, n3, n4, n5⟩⟩ := hv'
  · rcases a' with _ | a'
    all_goals
      go_wp2_with fail
    · exact bodyPost_ret (v := .tuple #[HistV f (.slice none 0 0), .int .i64 0]) (by simp [results, Try.results25, go_sem, r4c0, r4c1, r4l]) rfl ⟨_, rfl, hv2 _ _, (by repeat (first | exact Below.refl _ _ | assumption | (refine Below.setCell ?_ (by (first | omega | (simp; done) | (simp; omega) | (simp at *; omega))) _) | (refine Below.alloc ?_ (by (first | omega | (simp; done) | (simp; omega) | (simp at *; omega))) _) | (refine Below.drew ?_) | (refine Gr.into _ ?_ (by (first | omega | (simp; done) | (simp; omega) | (simp at *; omega))))))⟩
    · exact bodyPost_ret (v := .tuple #[HistV f (.slice (some a') 0 0), .int .i64 0]) (by simp [results, Try.results25, go_sem, r4c0, r4c1, r4l]) rfl ⟨_, rfl, hv2 _ _, (by repeat (first | exact Below.refl _ _ | assumption | (refine Below.setCell ?_ (by (first | omega | (simp; done) | (simp; omega) | (simp at *; omega))) _) | (refine Below.alloc ?_ (by (first | omega | (simp; done) | (simp; omega) | (simp at *; omega))) _) | (refine Below.drew ?_) | (refine Gr.into _ ?_ (by (first | omega | (simp; done) | (simp; omega) | (simp at *; omega))))))⟩
  · go_wp2_with fail
    exact bodyPost_ret (v := .tuple #[HistV f (.slice (some ⟨a', o', none⟩) (K.foldl addB (L.foldl addB [])).length c'), .int .i64 0]) (by simp [results, Try.results25, go_sem, r4c0, r4c1, r4l]) rfl ⟨_, rfl, hv2 _ _, (by repeat (first | exact Below.refl _ _ | assumption | (refine Below.setCell ?_ (by (first | omega | (simp; done) | (simp; omega) | (simp at *; omega))) _) | (refine Below.alloc ?_ (by (first | omega | (simp; done) | (simp; omega) | (simp at *; omega))) _) | (refine Below.drew ?_) | (refine Gr.into _ ?_ (by (first | omega | (simp; done) | (simp; omega) | (simp at *; omega))))))⟩
end Go.Proofs.Ytnoemopaplopdaa
