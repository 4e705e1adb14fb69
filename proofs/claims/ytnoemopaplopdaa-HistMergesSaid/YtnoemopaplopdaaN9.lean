/- The walk of the law HistMerges. -/
import Derived.Test.YtnoemopaplopdaaKA
import Derived.Test.YtnoemopaplopdaaK9
import Derived.Test.YtnoemopaplopdaaN8
namespace Go.Proofs.Ytnoemopaplopdaa
open Go.RowKit Go.Maps

theorem merge_both (f h : Int) (v u : Value) (L K : List (Int × Nat)) (w : World) (hL : BinsAt w.heap.size w v L) (hK : BinsAt w.heap.size w u K) (hlen : L.length ≤ 300) (hlenK : K.length ≤ 300) : ∃ (g e : Int) (B : List (Int × Nat)),
    (∀ W, Below w.heap.size w W → Calls Try.prog 25 #[HistV f v, HistV h u] W fun x w' => ∃ v', x = histRes g v' e ∧ BinsAt w'.heap.size w' v' B ∧ Below W.heap.size W w') ∧
    (∀ W, Below w.heap.size w W → Calls Try.prog 30 #[HistV f v, HistV h u] W fun x w' => ∃ v', x = histRes g v' e ∧ BinsAt w'.heap.size w' v' B ∧ Below W.heap.size W w') := by
  have no : ∀ {W : World} {x : Ending} {w' : World}, (x = histRes 0 (.slice none 0 0) 90 ∧ Below W.heap.size W w') → ∃ v', x = histRes 0 v' 90 ∧ BinsAt w'.heap.size w' v' [] ∧ Below W.heap.size W w' := fun ⟨h1, h2⟩ => ⟨_, h1, binsNil _ _, h2⟩
  cases hr : rightL f L
  · exact ⟨0, 90, [], fun W hb => (hMerge_no1 f h v u L W (hL.at_ hb) hr).mono fun _ _ h => no h, fun W hb => (rmerge_no1 f h v u L W (hL.at_ hb) hr).mono fun _ _ h => no h⟩
  · by_cases hbad : rightL h K = false ∨ f ≠ h
    · exact ⟨0, 90, [], fun W hb => (hMerge_no2 f h v u L K W (hL.at_ hb) (hK.at_ hb) hr hbad).mono fun _ _ h => no h, fun W hb => (rmerge_no2 f h v u L K W (hL.at_ hb) (hK.at_ hb) hr hbad).mono fun _ _ h => no h⟩
    · have hfh : f = h := Classical.byContradiction fun h' => hbad (.inr h')
      subst hfh
      have hk : rightL f K = true := by
        cases h' : rightL f K
        · exact absurd (.inl h') hbad
        · rfl
      have hfL : FitM L := fun b hb => by have := (hL.1 b hb).2.2; unfold maxU; omega
      have hfK : FitM K := fun b hb => by have := (hK.1 b hb).2.2; unfold maxU; omega
      have cL := canon_right hr hfL
      have cK := canon_right hk hfK
      refine ⟨f, 0, K.foldl addB L, fun W hb => ?_, fun W hb => ?_⟩
      · have := hMerge_yes f v u L K W (hL.at_ hb) (hK.at_ hb) hr hk (by omega) (by omega)
        rwa [cL.norm] at this
      · have := rmerge_yes f v u L K W (hL.at_ hb) (hK.at_ hb) hr hk (by omega) (by omega)
        rwa [putRs_addBs K cL fun b hb => ⟨(cK.bins b hb).2.2, (cK.bins b hb).2.1⟩] at this
theorem lower_both (f : Int) (v : Value) (L : List (Int × Nat)) (w : World) (hL : BinsAt w.heap.size w v L) (hlen : L.length ≤ 300) : ∃ (g e : Int) (B : List (Int × Nat)),
    (∀ W, Below w.heap.size w W → Calls Try.prog 29 #[HistV f v] W fun x w' => ∃ v', x = histRes g v' e ∧ BinsAt w'.heap.size w' v' B ∧ Below W.heap.size W w') ∧
    (∀ W, Below w.heap.size w W → Calls Try.prog 31 #[HistV f v] W fun x w' => ∃ v', x = histRes g v' e ∧ BinsAt w'.heap.size w' v' B ∧ Below W.heap.size W w') := by
  have no : ∀ {W : World} {x : Ending} {w' : World}, (x = histRes 0 (.slice none 0 0) 90 ∧ Below W.heap.size W w') → ∃ v', x = histRes 0 v' 90 ∧ BinsAt w'.heap.size w' v' [] ∧ Below W.heap.size W w' := fun ⟨h1, h2⟩ => ⟨_, h1, binsNil _ _, h2⟩
  cases hr : rightL f L
  · exact ⟨0, 90, [], fun W hb => (hLower_no1 f v L W (hL.at_ hb) hr).mono fun _ _ h => no h, fun W hb => (rlower_no1 f v L W (hL.at_ hb) hr).mono fun _ _ h => no h⟩
  · by_cases h0 : f = 0
    · subst h0
      exact ⟨0, 90, [], fun W hb => (hLower_no2 v L W (hL.at_ hb) hr).mono fun _ _ h => no h, fun W hb => (rlower_no2 v L W (hL.at_ hb) hr).mono fun _ _ h => no h⟩
    · have hfL : FitM L := fun b hb => by have := (hL.1 b hb).2.2; unfold maxU; omega
      obtain ⟨h1, h2⟩ := fine_bd (canon_right hr hfL).fine
      obtain ⟨n, rfl⟩ := Int.eq_ofNat_of_zero_le (a := f) h1
      refine ⟨(n : Int) - 1, 0, lowL L, fun W hb => hLower_yes n v L W (hL.at_ hb) hr h0 (by omega), fun W hb => ?_⟩
      have := rlower_yes n v L W (hL.at_ hb) (by omega) (by omega) hr (by omega)
      rwa [low_right (by omega) (by omega) hr hfL] at this
set_option maxRecDepth 100000 in
set_option maxHeartbeats 4000000 in
theorem merges_law (f h : Int) (v pl : Nat) (p1 p2 : Option Addr) (n1 n2 cp1 cp2 : Nat) (L K : List (Int × Nat)) (w : World) (hc1 : n1 ≤ cp1) (hc2 : n2 ≤ cp2) (hl1 : L.length = min n1 300) (hl2 : K.length = min n2 300) (hL : BinsAt w.heap.size w (.slice p1 L.length cp1) L) (hK : BinsAt w.heap.size w (.slice p2 K.length cp2) K) (hv : v < 18446744073709551616) (hpl : pl < 18446744073709551616) :
    Calls Try.prog 10 #[HistV f (.slice p1 n1 cp1), HistV h (.slice p2 n2 cp2), .int .u64 v, .int .u64 pl] w fun e w' => e = .returned (.bool true) ∧ Below w.heap.size w w' := by
  have hfew1 := fun W => few_hist f p1 n1 cp1 L.length W (by omega) (by omega)
  have hfew2 := fun W => few_hist h p2 n2 cp2 K.length W (by omega) (by omega)
  obtain ⟨gm, em, BM, hm1, hm2⟩ := merge_both f h _ _ L K w hL hK (by omega) (by omega)
  obtain ⟨gl, el, BL, hw1, hw2⟩ := lower_both f _ L w hL (by omega)
  have hs1 := fun W hb => select_any f pl _ L W (hL.at_ hb) hpl
  have hs2 := fun W hb => rselect_any f pl _ L W (hL.at_ hb) hpl
  have ht1 := fun W hb => total_any f _ L W (hL.at_ hb)
  have ht2 := fun W hb => rtotal_any f _ L W (hL.at_ hb)
  have hr1 := fun W hb => rank_any f v _ L W (hL.at_ hb) hv
  have hr2 := fun W hb => rrank_any f v _ L W (hL.at_ hb) hv
  have he1 := fun W hb => hSame_any f h _ _ L K W (hL.at_ hb) (hK.at_ hb)
  have he2 := fun W hb => rsame_any f h _ _ L K W (hL.at_ hb) (hK.at_ hb)
  have he3 : ∀ W, Below w.heap.size w W → Calls Try.prog 28 #[HistV f (.slice p1 L.length cp1), HistV f (.slice p1 L.length cp1)] W fun e w' => e = .returned (.bool true) ∧ Below W.heap.size W w' := fun W hb => by
    have := hSame_any f f _ _ L L W (hL.at_ hb) (hL.at_ hb)
    rwa [show sameH f f L L = true by simp [sameH]] at this
  have hsm : ∀ (g : Int) (B : List (Int × Nat)) y z W, BinsAt W.heap.size W y B → BinsAt W.heap.size W z B → Calls Try.prog 21 #[HistV g y, HistV g z] W fun e w' => e = .returned (.bool true) ∧ Below W.heap.size W w' := fun g B y z W hy hz => by
    have := rsame_any g g y z _ _ W hy hz
    rwa [show sameH g g B B = true by simp [sameH]] at this
  rw [bndRes_eq] at hs1 hs2
  generalize selectB f L pl = o at *
  generalize bLo o = lo at *
  generalize bHi o = hi at *
  generalize o.isSome = ok at *
  generalize totalH f L = tt at *
  generalize rankH f L v = rr at *
  generalize sameH f h L K = ss at *
  clear hl1 hl2 hc1 hc2
  cases ok
  all_goals
    go_enter Try.func10, Try.ntmps10
    go_wp2_with fail
    with_reducible refine Calls.mono (Calls.gr0 (shown_any _)) ?_
    rintro e w' ⟨rfl, g, rfl⟩
    have hgl := g.le
    try simp only [World.size_alloc] at hgl
    try simp only [World.size_setCell] at hgl
    go_wp2_with fail
    with_reducible refine Calls.mono (Calls.gr (hfew1 _)) ?_
    rintro e w' ⟨rfl, g, rfl⟩
    have hgl := g.le
    try simp only [World.size_alloc] at hgl
    try simp only [World.size_setCell] at hgl
    go_wp2_with fail
    refine Calls.named (fun C9 hC9 => ?_)
    have hBC9 : Below w.heap.size w C9 := by rw [hC9]; exact (by repeat (first | exact Below.refl _ _ | assumption | (refine Below.setCell ?_ (by (first | omega | (simp; done) | (simp; omega) | (simp at *; omega))) _) | (refine Below.alloc ?_ (by (first | omega | (simp; done) | (simp; omega) | (simp at *; omega))) _) | (refine Below.drew ?_) | (refine Gr.into _ ?_ (by (first | omega | (simp; done) | (simp; omega) | (simp at *; omega))))))
    have x_9 : RowAt C9 w.heap.size 25 [.int .i64 f, .slice p1 L.length cp1] := by rw [hC9]; exact (((((RowAt.new_at w #[.int .i64 f, .slice p1 n1 cp1] 25 w.heap.size rfl).alloc _).gr g).set 0 _).set 1 _)
    have y_9 : RowAt C9 (w.heap.size + 1) 25 [.int .i64 h, .slice p2 n2 cp2] := by rw [hC9]; exact ((((RowAt.new_at (w.alloc (.cells #[.int .i64 f, .slice p1 n1 cp1] 25)) #[.int .i64 h, .slice p2 n2 cp2] 25 (w.heap.size + 1) (by simp)).gr g).setOther _ _ (by dsimp only; omega)).setOther _ _ (by dsimp only; omega))
    clear hC9
    clear hgl g
    obtain ⟨x_9c0, x_9c1, x_9f0, x_9f1, x_9l⟩ := x_9.two
    obtain ⟨y_9c0, y_9c1, y_9f0, y_9f1, y_9l⟩ := y_9.two
    have hC9s := hBC9.size
    with_reducible refine Calls.mono (Calls.gr0 (hfew2 _)) ?_
    rintro e w' ⟨rfl, g, rfl⟩
    have hgl := g.le
    try simp only [World.size_alloc] at hgl
    try simp only [World.size_setCell] at hgl
    go_wp2_with fail
    refine Calls.named (fun C0 hC0 => ?_)
    have hBC0 : Below w.heap.size w C0 := by rw [hC0]; exact (by repeat (first | exact Below.refl _ _ | assumption | (refine Below.setCell ?_ (by (first | omega | (simp; done) | (simp; omega) | (simp at *; omega))) _) | (refine Below.alloc ?_ (by (first | omega | (simp; done) | (simp; omega) | (simp at *; omega))) _) | (refine Below.drew ?_) | (refine Gr.into _ ?_ (by (first | omega | (simp; done) | (simp; omega) | (simp at *; omega))))))
    have x_0 : RowAt C0 w.heap.size 25 [.int .i64 f, .slice p1 L.length cp1] := by rw [hC0]; exact ((x_9.gr g).setOther _ _ (by dsimp only; omega)).setOther _ _ (by dsimp only; omega)
    have y_0 : RowAt C0 (w.heap.size + 1) 25 [.int .i64 h, .slice p2 K.length cp2] := by rw [hC0]; exact ((y_9.gr g).set 0 _).set 1 _
    clear hC0
    obtain ⟨x_0c0, x_0c1, x_0f0, x_0f1, x_0l⟩ := x_0.two
    obtain ⟨y_0c0, y_0c1, y_0f0, y_0f1, y_0l⟩ := y_0.two
    have hB0 := hBC0
    clear hgl g
    refine Calls.mono (hm1 _ hB0) ?_
    rintro e D1 ⟨v1, rfl, hv1, hd1⟩
    obtain ⟨a1, b1, he1, -⟩ := hv1.form
    subst he1
    have dx_1 := x_0.below hd1 x_0l
    obtain ⟨dx_1c0, dx_1c1, dx_1f0, dx_1f1, dx_1l⟩ := dx_1.two
    have dy_1 := y_0.below hd1 y_0l
    obtain ⟨dy_1c0, dy_1c1, dy_1f0, dy_1f1, dy_1l⟩ := dy_1.two
    have hE1 : Below w.heap.size w D1 := hB0.trans (hd1.mono hB0.size)
    have hEs1 := hE1.size
    go_wp2_with fail
    refine Calls.named (fun C1 hC1 => ?_)
    have hBC1 : Below D1.heap.size D1 C1 := by rw [hC1]; exact (by repeat (first | exact Below.refl _ _ | assumption | (refine Below.setCell ?_ (by (first | omega | (simp; done) | (simp; omega) | (simp at *; omega))) _) | (refine Below.alloc ?_ (by (first | omega | (simp; done) | (simp; omega) | (simp at *; omega))) _) | (refine Below.drew ?_) | (refine Gr.into _ ?_ (by (first | omega | (simp; done) | (simp; omega) | (simp at *; omega))))))
    have x_1 : RowAt C1 (w.heap.size) 25 [.int .i64 f, .slice p1 L.length cp1] := by rw [hC1]; exact (by repeat (first | assumption | exact RowAt.new_at _ _ _ _ (by (first | omega | (simp; done) | (simp; omega) | (simp at *; omega))) | (refine RowAt.alloc ?_ _) | (refine RowAt.gr ?_ _) | (refine RowAt.setOther ?_ _ _ (by (first | omega | (simp; done) | (simp; omega) | (simp at *; omega)))) | (refine RowAt.drew ?_)))
    have y_1 : RowAt C1 (w.heap.size + 1) 25 [.int .i64 h, .slice p2 K.length cp2] := by rw [hC1]; exact (by repeat (first | assumption | exact RowAt.new_at _ _ _ _ (by (first | omega | (simp; done) | (simp; omega) | (simp at *; omega))) | (refine RowAt.alloc ?_ _) | (refine RowAt.gr ?_ _) | (refine RowAt.setOther ?_ _ _ (by (first | omega | (simp; done) | (simp; omega) | (simp at *; omega)))) | (refine RowAt.drew ?_)))
    have q1_1 : RowAt C1 (D1.heap.size) 25 [.int .i64 gm, .slice a1 BM.length b1] := by rw [hC1]; exact (by repeat (first | assumption | exact RowAt.new_at _ _ _ _ (by (first | omega | (simp; done) | (simp; omega) | (simp at *; omega))) | (refine RowAt.alloc ?_ _) | (refine RowAt.gr ?_ _) | (refine RowAt.setOther ?_ _ _ (by (first | omega | (simp; done) | (simp; omega) | (simp at *; omega)))) | (refine RowAt.drew ?_)))
    clear hC1
    obtain ⟨x_1c0, x_1c1, x_1f0, x_1f1, x_1l⟩ := x_1.two
    obtain ⟨y_1c0, y_1c1, y_1f0, y_1f1, y_1l⟩ := y_1.two
    obtain ⟨q1_1c0, q1_1c1, q1_1f0, q1_1f1, q1_1l⟩ := q1_1.two
    have b1_1 := hv1.at_ hBC1
    have hB1 : Below w.heap.size w C1 := hE1.trans (hBC1.mono hE1.size)
    refine Calls.mono (hm2 _ hB1) ?_
    rintro e D2 ⟨v2, rfl, hv2, hd2⟩
    obtain ⟨a2, b2, he2, -⟩ := hv2.form
    subst he2
    have dx_2 := x_1.below hd2 x_1l
    obtain ⟨dx_2c0, dx_2c1, dx_2f0, dx_2f1, dx_2l⟩ := dx_2.two
    have dy_2 := y_1.below hd2 y_1l
    obtain ⟨dy_2c0, dy_2c1, dy_2f0, dy_2f1, dy_2l⟩ := dy_2.two
    have dq1_2 := q1_1.below hd2 q1_1l
    obtain ⟨dq1_2c0, dq1_2c1, dq1_2f0, dq1_2f1, dq1_2l⟩ := dq1_2.two
    have c1_2 := b1_1.at_ hd2
    have hE2 : Below w.heap.size w D2 := hB1.trans (hd2.mono hB1.size)
    have hEs2 := hE2.size
    go_wp2_with fail
    refine Calls.named (fun C2 hC2 => ?_)
    have hBC2 : Below D2.heap.size D2 C2 := by rw [hC2]; exact (by repeat (first | exact Below.refl _ _ | assumption | (refine Below.setCell ?_ (by (first | omega | (simp; done) | (simp; omega) | (simp at *; omega))) _) | (refine Below.alloc ?_ (by (first | omega | (simp; done) | (simp; omega) | (simp at *; omega))) _) | (refine Below.drew ?_) | (refine Gr.into _ ?_ (by (first | omega | (simp; done) | (simp; omega) | (simp at *; omega))))))
    have x_2 : RowAt C2 (w.heap.size) 25 [.int .i64 f, .slice p1 L.length cp1] := by rw [hC2]; exact (by repeat (first | assumption | exact RowAt.new_at _ _ _ _ (by (first | omega | (simp; done) | (simp; omega) | (simp at *; omega))) | (refine RowAt.alloc ?_ _) | (refine RowAt.gr ?_ _) | (refine RowAt.setOther ?_ _ _ (by (first | omega | (simp; done) | (simp; omega) | (simp at *; omega)))) | (refine RowAt.drew ?_)))
    have y_2 : RowAt C2 (w.heap.size + 1) 25 [.int .i64 h, .slice p2 K.length cp2] := by rw [hC2]; exact (by repeat (first | assumption | exact RowAt.new_at _ _ _ _ (by (first | omega | (simp; done) | (simp; omega) | (simp at *; omega))) | (refine RowAt.alloc ?_ _) | (refine RowAt.gr ?_ _) | (refine RowAt.setOther ?_ _ _ (by (first | omega | (simp; done) | (simp; omega) | (simp at *; omega)))) | (refine RowAt.drew ?_)))
    have q1_2 : RowAt C2 (D1.heap.size) 25 [.int .i64 gm, .slice a1 BM.length b1] := by rw [hC2]; exact (by repeat (first | assumption | exact RowAt.new_at _ _ _ _ (by (first | omega | (simp; done) | (simp; omega) | (simp at *; omega))) | (refine RowAt.alloc ?_ _) | (refine RowAt.gr ?_ _) | (refine RowAt.setOther ?_ _ _ (by (first | omega | (simp; done) | (simp; omega) | (simp at *; omega)))) | (refine RowAt.drew ?_)))
    have q2_2 : RowAt C2 (D2.heap.size) 25 [.int .i64 gm, .slice a2 BM.length b2] := by rw [hC2]; exact (by repeat (first | assumption | exact RowAt.new_at _ _ _ _ (by (first | omega | (simp; done) | (simp; omega) | (simp at *; omega))) | (refine RowAt.alloc ?_ _) | (refine RowAt.gr ?_ _) | (refine RowAt.setOther ?_ _ _ (by (first | omega | (simp; done) | (simp; omega) | (simp at *; omega)))) | (refine RowAt.drew ?_)))
    clear hC2
    obtain ⟨x_2c0, x_2c1, x_2f0, x_2f1, x_2l⟩ := x_2.two
    obtain ⟨y_2c0, y_2c1, y_2f0, y_2f1, y_2l⟩ := y_2.two
    obtain ⟨q1_2c0, q1_2c1, q1_2f0, q1_2f1, q1_2l⟩ := q1_2.two
    obtain ⟨q2_2c0, q2_2c1, q2_2f0, q2_2f1, q2_2l⟩ := q2_2.two
    have b1_2 := c1_2.at_ hBC2
    have b2_2 := hv2.at_ hBC2
    have hB2 : Below w.heap.size w C2 := hE2.trans (hBC2.mono hE2.size)
    refine Calls.mono (hw1 _ hB2) ?_
    rintro e D3 ⟨v3, rfl, hv3, hd3⟩
    obtain ⟨a3, b3, he3, -⟩ := hv3.form
    subst he3
    have dx_3 := x_2.below hd3 x_2l
    obtain ⟨dx_3c0, dx_3c1, dx_3f0, dx_3f1, dx_3l⟩ := dx_3.two
    have dy_3 := y_2.below hd3 y_2l
    obtain ⟨dy_3c0, dy_3c1, dy_3f0, dy_3f1, dy_3l⟩ := dy_3.two
    have dq1_3 := q1_2.below hd3 q1_2l
    obtain ⟨dq1_3c0, dq1_3c1, dq1_3f0, dq1_3f1, dq1_3l⟩ := dq1_3.two
    have dq2_3 := q2_2.below hd3 q2_2l
    obtain ⟨dq2_3c0, dq2_3c1, dq2_3f0, dq2_3f1, dq2_3l⟩ := dq2_3.two
    have c1_3 := b1_2.at_ hd3
    have c2_3 := b2_2.at_ hd3
    have hE3 : Below w.heap.size w D3 := hB2.trans (hd3.mono hB2.size)
    have hEs3 := hE3.size
    go_wp2_with fail
    refine Calls.named (fun C3 hC3 => ?_)
    have hBC3 : Below D3.heap.size D3 C3 := by rw [hC3]; exact (by repeat (first | exact Below.refl _ _ | assumption | (refine Below.setCell ?_ (by (first | omega | (simp; done) | (simp; omega) | (simp at *; omega))) _) | (refine Below.alloc ?_ (by (first | omega | (simp; done) | (simp; omega) | (simp at *; omega))) _) | (refine Below.drew ?_) | (refine Gr.into _ ?_ (by (first | omega | (simp; done) | (simp; omega) | (simp at *; omega))))))
    have x_3 : RowAt C3 (w.heap.size) 25 [.int .i64 f, .slice p1 L.length cp1] := by rw [hC3]; exact (by repeat (first | assumption | exact RowAt.new_at _ _ _ _ (by (first | omega | (simp; done) | (simp; omega) | (simp at *; omega))) | (refine RowAt.alloc ?_ _) | (refine RowAt.gr ?_ _) | (refine RowAt.setOther ?_ _ _ (by (first | omega | (simp; done) | (simp; omega) | (simp at *; omega)))) | (refine RowAt.drew ?_)))
    have y_3 : RowAt C3 (w.heap.size + 1) 25 [.int .i64 h, .slice p2 K.length cp2] := by rw [hC3]; exact (by repeat (first | assumption | exact RowAt.new_at _ _ _ _ (by (first | omega | (simp; done) | (simp; omega) | (simp at *; omega))) | (refine RowAt.alloc ?_ _) | (refine RowAt.gr ?_ _) | (refine RowAt.setOther ?_ _ _ (by (first | omega | (simp; done) | (simp; omega) | (simp at *; omega)))) | (refine RowAt.drew ?_)))
    have q1_3 : RowAt C3 (D1.heap.size) 25 [.int .i64 gm, .slice a1 BM.length b1] := by rw [hC3]; exact (by repeat (first | assumption | exact RowAt.new_at _ _ _ _ (by (first | omega | (simp; done) | (simp; omega) | (simp at *; omega))) | (refine RowAt.alloc ?_ _) | (refine RowAt.gr ?_ _) | (refine RowAt.setOther ?_ _ _ (by (first | omega | (simp; done) | (simp; omega) | (simp at *; omega)))) | (refine RowAt.drew ?_)))
    have q2_3 : RowAt C3 (D2.heap.size) 25 [.int .i64 gm, .slice a2 BM.length b2] := by rw [hC3]; exact (by repeat (first | assumption | exact RowAt.new_at _ _ _ _ (by (first | omega | (simp; done) | (simp; omega) | (simp at *; omega))) | (refine RowAt.alloc ?_ _) | (refine RowAt.gr ?_ _) | (refine RowAt.setOther ?_ _ _ (by (first | omega | (simp; done) | (simp; omega) | (simp at *; omega)))) | (refine RowAt.drew ?_)))
    have q3_3 : RowAt C3 (D3.heap.size) 25 [.int .i64 gl, .slice a3 BL.length b3] := by rw [hC3]; exact (by repeat (first | assumption | exact RowAt.new_at _ _ _ _ (by (first | omega | (simp; done) | (simp; omega) | (simp at *; omega))) | (refine RowAt.alloc ?_ _) | (refine RowAt.gr ?_ _) | (refine RowAt.setOther ?_ _ _ (by (first | omega | (simp; done) | (simp; omega) | (simp at *; omega)))) | (refine RowAt.drew ?_)))
    clear hC3
    obtain ⟨x_3c0, x_3c1, x_3f0, x_3f1, x_3l⟩ := x_3.two
    obtain ⟨y_3c0, y_3c1, y_3f0, y_3f1, y_3l⟩ := y_3.two
    obtain ⟨q1_3c0, q1_3c1, q1_3f0, q1_3f1, q1_3l⟩ := q1_3.two
    obtain ⟨q2_3c0, q2_3c1, q2_3f0, q2_3f1, q2_3l⟩ := q2_3.two
    obtain ⟨q3_3c0, q3_3c1, q3_3f0, q3_3f1, q3_3l⟩ := q3_3.two
    have b1_3 := c1_3.at_ hBC3
    have b2_3 := c2_3.at_ hBC3
    have b3_3 := hv3.at_ hBC3
    have hB3 : Below w.heap.size w C3 := hE3.trans (hBC3.mono hE3.size)
    refine Calls.mono (hw2 _ hB3) ?_
    rintro e D4 ⟨v4, rfl, hv4, hd4⟩
    obtain ⟨a4, b4, he4, -⟩ := hv4.form
    subst he4
    have dx_4 := x_3.below hd4 x_3l
    obtain ⟨dx_4c0, dx_4c1, dx_4f0, dx_4f1, dx_4l⟩ := dx_4.two
    have dy_4 := y_3.below hd4 y_3l
    obtain ⟨dy_4c0, dy_4c1, dy_4f0, dy_4f1, dy_4l⟩ := dy_4.two
    have dq1_4 := q1_3.below hd4 q1_3l
    obtain ⟨dq1_4c0, dq1_4c1, dq1_4f0, dq1_4f1, dq1_4l⟩ := dq1_4.two
    have dq2_4 := q2_3.below hd4 q2_3l
    obtain ⟨dq2_4c0, dq2_4c1, dq2_4f0, dq2_4f1, dq2_4l⟩ := dq2_4.two
    have dq3_4 := q3_3.below hd4 q3_3l
    obtain ⟨dq3_4c0, dq3_4c1, dq3_4f0, dq3_4f1, dq3_4l⟩ := dq3_4.two
    have c1_4 := b1_3.at_ hd4
    have c2_4 := b2_3.at_ hd4
    have c3_4 := b3_3.at_ hd4
    have hE4 : Below w.heap.size w D4 := hB3.trans (hd4.mono hB3.size)
    have hEs4 := hE4.size
    go_wp2_with fail
    refine Calls.named (fun C4 hC4 => ?_)
    have hBC4 : Below D4.heap.size D4 C4 := by rw [hC4]; exact (by repeat (first | exact Below.refl _ _ | assumption | (refine Below.setCell ?_ (by (first | omega | (simp; done) | (simp; omega) | (simp at *; omega))) _) | (refine Below.alloc ?_ (by (first | omega | (simp; done) | (simp; omega) | (simp at *; omega))) _) | (refine Below.drew ?_) | (refine Gr.into _ ?_ (by (first | omega | (simp; done) | (simp; omega) | (simp at *; omega))))))
    have x_4 : RowAt C4 (w.heap.size) 25 [.int .i64 f, .slice p1 L.length cp1] := by rw [hC4]; exact (by repeat (first | assumption | exact RowAt.new_at _ _ _ _ (by (first | omega | (simp; done) | (simp; omega) | (simp at *; omega))) | (refine RowAt.alloc ?_ _) | (refine RowAt.gr ?_ _) | (refine RowAt.setOther ?_ _ _ (by (first | omega | (simp; done) | (simp; omega) | (simp at *; omega)))) | (refine RowAt.drew ?_)))
    have y_4 : RowAt C4 (w.heap.size + 1) 25 [.int .i64 h, .slice p2 K.length cp2] := by rw [hC4]; exact (by repeat (first | assumption | exact RowAt.new_at _ _ _ _ (by (first | omega | (simp; done) | (simp; omega) | (simp at *; omega))) | (refine RowAt.alloc ?_ _) | (refine RowAt.gr ?_ _) | (refine RowAt.setOther ?_ _ _ (by (first | omega | (simp; done) | (simp; omega) | (simp at *; omega)))) | (refine RowAt.drew ?_)))
    have q1_4 : RowAt C4 (D1.heap.size) 25 [.int .i64 gm, .slice a1 BM.length b1] := by rw [hC4]; exact (by repeat (first | assumption | exact RowAt.new_at _ _ _ _ (by (first | omega | (simp; done) | (simp; omega) | (simp at *; omega))) | (refine RowAt.alloc ?_ _) | (refine RowAt.gr ?_ _) | (refine RowAt.setOther ?_ _ _ (by (first | omega | (simp; done) | (simp; omega) | (simp at *; omega)))) | (refine RowAt.drew ?_)))
    have q2_4 : RowAt C4 (D2.heap.size) 25 [.int .i64 gm, .slice a2 BM.length b2] := by rw [hC4]; exact (by repeat (first | assumption | exact RowAt.new_at _ _ _ _ (by (first | omega | (simp; done) | (simp; omega) | (simp at *; omega))) | (refine RowAt.alloc ?_ _) | (refine RowAt.gr ?_ _) | (refine RowAt.setOther ?_ _ _ (by (first | omega | (simp; done) | (simp; omega) | (simp at *; omega)))) | (refine RowAt.drew ?_)))
    have q3_4 : RowAt C4 (D3.heap.size) 25 [.int .i64 gl, .slice a3 BL.length b3] := by rw [hC4]; exact (by repeat (first | assumption | exact RowAt.new_at _ _ _ _ (by (first | omega | (simp; done) | (simp; omega) | (simp at *; omega))) | (refine RowAt.alloc ?_ _) | (refine RowAt.gr ?_ _) | (refine RowAt.setOther ?_ _ _ (by (first | omega | (simp; done) | (simp; omega) | (simp at *; omega)))) | (refine RowAt.drew ?_)))
    have q4_4 : RowAt C4 (D4.heap.size) 25 [.int .i64 gl, .slice a4 BL.length b4] := by rw [hC4]; exact (by repeat (first | assumption | exact RowAt.new_at _ _ _ _ (by (first | omega | (simp; done) | (simp; omega) | (simp at *; omega))) | (refine RowAt.alloc ?_ _) | (refine RowAt.gr ?_ _) | (refine RowAt.setOther ?_ _ _ (by (first | omega | (simp; done) | (simp; omega) | (simp at *; omega)))) | (refine RowAt.drew ?_)))
    clear hC4
    obtain ⟨x_4c0, x_4c1, x_4f0, x_4f1, x_4l⟩ := x_4.two
    obtain ⟨y_4c0, y_4c1, y_4f0, y_4f1, y_4l⟩ := y_4.two
    obtain ⟨q1_4c0, q1_4c1, q1_4f0, q1_4f1, q1_4l⟩ := q1_4.two
    obtain ⟨q2_4c0, q2_4c1, q2_4f0, q2_4f1, q2_4l⟩ := q2_4.two
    obtain ⟨q3_4c0, q3_4c1, q3_4f0, q3_4f1, q3_4l⟩ := q3_4.two
    obtain ⟨q4_4c0, q4_4c1, q4_4f0, q4_4f1, q4_4l⟩ := q4_4.two
    have b1_4 := c1_4.at_ hBC4
    have b2_4 := c2_4.at_ hBC4
    have b3_4 := c3_4.at_ hBC4
    have b4_4 := hv4.at_ hBC4
    have hB4 : Below w.heap.size w C4 := hE4.trans (hBC4.mono hE4.size)
    have up : ∀ g : Gr C4, Below w.heap.size w g.world := fun g => hB4.trans (g.below.mono hB4.size)
    with_reducible refine Calls.mono (Calls.gr0 (hs1 _ hB4)) ?_
    rintro e w' ⟨rfl, g, rfl⟩
    have hgl := g.le
    try simp only [World.size_alloc] at hgl
    try simp only [World.size_setCell] at hgl
    go_wp2_with fail
    with_reducible refine Calls.mono (Calls.gr (hs2 _ (up g))) ?_
    rintro e w' ⟨rfl, g, rfl⟩
    have hgl := g.le
    try simp only [World.size_alloc] at hgl
    try simp only [World.size_setCell] at hgl
    go_wp2_with fail
    have t1 := fun g : Gr C4 => ht1 _ (up g)
    have t2 := fun g : Gr C4 => ht2 _ (up g)
    have t3 := fun g : Gr C4 => hr1 _ (up g)
    have t4 := fun g : Gr C4 => hr2 _ (up g)
    have t5 := fun g : Gr C4 => he1 _ (up g)
    have t6 := fun g : Gr C4 => he2 _ (up g)
    have t7 := fun g : Gr C4 => he3 _ (up g)
    have t8 := fun g : Gr C4 => hsm gm BM _ _ _ (b1_4.at_ g.below) (b2_4.at_ g.below)
    have t9 := fun g : Gr C4 => hsm gl BL _ _ _ (b3_4.at_ g.below) (b4_4.at_ g.below)
    clear hs1 hs2 ht1 ht2 hr1 hr2 he1 he2 he3 hsm hm1 hm2 hw1 hw2 hfew1 hfew2
    refine wp_region_gr' (by kernel_rfl) (by kernel_rfl) ?_
    simp only [List.append]
    repeat (go_big_quiet_step (first | (go_at_call 21; with_reducible exact Calls.gr (t8 _)) | (go_at_call 21; with_reducible exact Calls.gr (t9 _)) | (go_at_call 21; with_reducible exact Calls.gr (t6 _)) | (go_at_call 28; with_reducible exact Calls.gr (t5 _)) | (go_at_call 28; with_reducible exact Calls.gr (t7 _)) | (go_at_call 23; exact Calls.gr (t1 _)) | (go_at_call 33; exact Calls.gr (t2 _)) | (go_at_call 22; exact Calls.gr (t3 _)) | (go_at_call 34; exact Calls.gr (t4 _))))
    refine wpQuiet_nil ?_
    intro g5
    go_wp2
    go_ret
    exact ⟨by first | rfl | (simp; done) | (simp; omega), up g5⟩
end Go.Proofs.Ytnoemopaplopdaa
