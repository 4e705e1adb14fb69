/- Package hist: Lower. -/
import Derived.Test.YtnoemopaplopdaaI1
namespace Go.Proofs.Ytnoemopaplopdaa
open Go.RowKit Go.Maps

theorem boundsB_at {f a : Int} (h : (boundsB f a).isSome = true) : 0 ≤ f ∧ f ≤ 3 ∧ 0 ≤ a ∧ a ≤ 64 * 2 ^ f.toNat ∧ a ≤ 512 := by
  unfold boundsB at h
  split at h
  · rename_i h1
    simp only [Bool.and_eq_true, decide_eq_true_eq] at h1
    obtain ⟨⟨h1, h2⟩, h3⟩ := h1
    obtain ⟨h4, h5⟩ := fine_bd h1
    refine ⟨h4, h5, h2, h3, ?_⟩
    rcases four (f := f.toNat) (by omega) with h | h | h | h <;> rw [h] at h3 <;> omega
  · cases h
theorem rightFrom_mem {f : Int} : ∀ {L : List (Int × Nat)} {z : Int}, rightFrom f z L = true → ∀ b ∈ L, z < b.1 ∧ b.2 ≠ 0 ∧ (boundsB f b.1).isSome = true
  | (a, n) :: l, z, h, b, hb => by
    simp only [rightFrom, Bool.and_eq_true, decide_eq_true_eq] at h
    obtain ⟨⟨⟨h1, h2⟩, h3⟩, h4⟩ := h
    rcases List.mem_cons.1 hb with rfl | hb
    · exact ⟨h3, h2, h1⟩
    · have := rightFrom_mem h4 b hb
      exact ⟨by omega, this.2⟩
theorem rightFrom_rising {f : Int} : ∀ {L : List (Int × Nat)} {z : Int}, rightFrom f z L = true → Rising L
  | [], _, _ => List.Pairwise.nil
  | (a, n) :: l, z, h => by
    simp only [rightFrom, Bool.and_eq_true, decide_eq_true_eq] at h
    exact List.pairwise_cons.2 ⟨fun b hb => (rightFrom_mem h.2 b hb).1, rightFrom_rising h.2⟩
theorem rightL_mem {f : Int} {L : List (Int × Nat)} (h : rightL f L = true) : ∀ b ∈ L, 0 ≤ b.1 ∧ b.1 ≤ 64 * 2 ^ f.toNat ∧ b.1 ≤ 512 ∧ b.2 ≠ 0 ∧ (boundsB f b.1).isSome = true := fun b hb => by
  simp only [rightL, Bool.and_eq_true] at h
  obtain ⟨h1, h2, h3⟩ := rightFrom_mem h.2 b hb
  have := boundsB_at h3
  exact ⟨by omega, this.2.2.2.1, this.2.2.2.2, h2, h3⟩
theorem rightL_rising {f : Int} {L : List (Int × Nat)} (h : rightL f L = true) : Rising L := by
  simp only [rightL, Bool.and_eq_true] at h
  exact rightFrom_rising h.2
def lowB (b : Int × Nat) : Int × Nat := ((b.1 + 1) / 2, b.2)
def lowL (L : List (Int × Nat)) : List (Int × Nat) := (L.map lowB).foldl addB []

theorem hLower_no1 (f : Int) (v : Value) (L : List (Int × Nat)) (w : World) (hL : BinsAt w.heap.size w v L) (h0 : rightL f L = false) :
    Calls Try.prog 29 #[HistV f v] w fun e w' => e = histRes 0 (.slice none 0 0) 90 ∧ Below w.heap.size w w' := by
  have hR : ∀ W, Below w.heap.size w W → Calls Try.prog 19 #[HistV f v] W fun e w' => e = .returned (.bool false) ∧ Below W.heap.size W w' := fun W hb => h0 ▸ right_any f v L W (hL.at_ hb)
  go_enter Try.func29, Try.ntmps29
  go_wp2_with fail
  with_reducible refine Calls.mono (Calls.gr0 (hR _ (by repeat (first | exact Below.refl _ _ | assumption | (refine Below.setCell ?_ (by (first | omega | (simp; done) | (simp; omega) | (simp at *; omega))) _) | (refine Below.alloc ?_ (by (first | omega | (simp; done) | (simp; omega) | (simp at *; omega))) _) | (refine Below.drew ?_) | (refine Gr.into _ ?_ (by (first | omega | (simp; done) | (simp; omega) | (simp at *; omega)))))))) ?_
  rintro e w' ⟨rfl, g, rfl⟩
  have hgl := g.le
  try simp only [World.size_alloc] at hgl
  try simp only [World.size_setCell] at hgl
  go_wp2_with fail
  with_reducible refine Calls.mono (Calls.gr (told_wrong _)) ?_
  rintro e w' ⟨rfl, g, rfl⟩
  have hgl := g.le
  try simp only [World.size_alloc] at hgl
  try simp only [World.size_setCell] at hgl
  go_wp2_with fail
  exact bodyPost_ret (v := .tuple #[HistV 0 (.slice none 0 0), .int .i64 90]) (by simp [results, Try.results29, go_sem]) rfl ⟨rfl, (by repeat (first | exact Below.refl _ _ | assumption | (refine Below.setCell ?_ (by (first | omega | (simp; done) | (simp; omega) | (simp at *; omega))) _) | (refine Below.alloc ?_ (by (first | omega | (simp; done) | (simp; omega) | (simp at *; omega))) _) | (refine Below.drew ?_) | (refine Gr.into _ ?_ (by (first | omega | (simp; done) | (simp; omega) | (simp at *; omega))))))⟩
theorem hLower_no2 (v : Value) (L : List (Int × Nat)) (w : World) (hL : BinsAt w.heap.size w v L) (h0 : rightL 0 L = true) :
    Calls Try.prog 29 #[HistV 0 v] w fun e w' => e = histRes 0 (.slice none 0 0) 90 ∧ Below w.heap.size w w' := by
  have hR : ∀ W, Below w.heap.size w W → Calls Try.prog 19 #[HistV 0 v] W fun e w' => e = .returned (.bool true) ∧ Below W.heap.size W w' := fun W hb => h0 ▸ right_any 0 v L W (hL.at_ hb)
  go_enter Try.func29, Try.ntmps29
  go_wp2_with fail
  with_reducible refine Calls.mono (Calls.gr0 (hR _ (by repeat (first | exact Below.refl _ _ | assumption | (refine Below.setCell ?_ (by (first | omega | (simp; done) | (simp; omega) | (simp at *; omega))) _) | (refine Below.alloc ?_ (by (first | omega | (simp; done) | (simp; omega) | (simp at *; omega))) _) | (refine Below.drew ?_) | (refine Gr.into _ ?_ (by (first | omega | (simp; done) | (simp; omega) | (simp at *; omega)))))))) ?_
  rintro e w' ⟨rfl, g, rfl⟩
  have hgl := g.le
  try simp only [World.size_alloc] at hgl
  try simp only [World.size_setCell] at hgl
  go_wp2_with fail
  with_reducible refine Calls.mono (Calls.gr (told_wrong _)) ?_
  rintro e w' ⟨rfl, g, rfl⟩
  have hgl := g.le
  try simp only [World.size_alloc] at hgl
  try simp only [World.size_setCell] at hgl
  go_wp2_with fail
  exact bodyPost_ret (v := .tuple #[HistV 0 (.slice none 0 0), .int .i64 90]) (by simp [results, Try.results29, go_sem]) rfl ⟨rfl, (by repeat (first | exact Below.refl _ _ | assumption | (refine Below.setCell ?_ (by (first | omega | (simp; done) | (simp; omega) | (simp at *; omega))) _) | (refine Below.alloc ?_ (by (first | omega | (simp; done) | (simp; omega) | (simp at *; omega))) _) | (refine Below.drew ?_) | (refine Gr.into _ ?_ (by (first | omega | (simp; done) | (simp; omega) | (simp at *; omega))))))⟩
theorem lowL_length (L : List (Int × Nat)) : (lowL L).length ≤ L.length := by
  have := addBs_length (L.map lowB) []
  simpa [lowL] using this
theorem lowL_good {L : List (Int × Nat)} (h : ∀ b ∈ L, 0 ≤ b.1 ∧ b.1 ≤ 512) : Good (lowL L) := Good.nil.addBs fun b hb => by
  obtain ⟨c, hc, rfl⟩ := List.mem_map.1 hb
  have := h c hc
  simp only [lowB]
  omega
set_option maxRecDepth 100000 in
set_option maxHeartbeats 1000000 in
theorem hLower_yes (f : Int) (v : Value) (L : List (Int × Nat)) (w : World) (hL : BinsAt w.heap.size w v L) (h : rightL f L = true) (hf : f ≠ 0) (hlen : L.length ≤ 1000000000000) :
    Calls Try.prog 29 #[HistV f v] w fun e w' => ∃ v', e = histRes (f - 1) v' 0 ∧ BinsAt w'.heap.size w' v' (lowL L) ∧ Below w.heap.size w w' := by
  have hR : ∀ W, Below w.heap.size w W → Calls Try.prog 19 #[HistV f v] W fun e w' => e = .returned (.bool true) ∧ Below W.heap.size W w' := fun W hb => h ▸ right_any f v L W (hL.at_ hb)
  have hf3 : 0 ≤ f ∧ f ≤ 3 := fine_bd (by simp only [rightL, Bool.and_eq_true] at h; exact h.1)
  have hmem := rightL_mem h
  have hGL : Good (lowL L) := lowL_good fun b hb => ⟨(hmem b hb).1, (hmem b hb).2.2.1⟩
  have hlenL := lowL_length L
  have hmk : ∀ w : World, Sem.run Try.prog (Instr.makeMap 76 none) w = .ok (.map (some w.heap.size)) (w.alloc (.map #[] 0)) := fun w => rfl
  have hf0 : (f == 0) = false := by simpa using hf
  have hw1 : wrap64 (f - 1) = f - 1 := by unfold wrap64; omega
  have hc0 : ∀ (g : Gr ((w.alloc (.cells #[.int .i64 f, v] 25)).alloc (.cells #[.int .i64 0, .slice none 0 0] 25))), (g.world.alloc (.map #[] 0)).cell? ⟨w.heap.size, 0, none⟩ = some (.int .i64 f) := fun g =>
    ((((RowAt.new_at w #[.int .i64 f, v] 25 w.heap.size rfl).alloc _).gr g).alloc (.map #[] 0)).cell 0 (by simp)
  have hc1 : ∀ (g : Gr ((w.alloc (.cells #[.int .i64 f, v] 25)).alloc (.cells #[.int .i64 0, .slice none 0 0] 25))) (o : Obj), ((g.world.alloc (.map #[] 0)).alloc o).cell? ⟨w.heap.size, 1, none⟩ = some v := fun g o =>
    (((((RowAt.new_at w #[.int .i64 f, v] 25 w.heap.size rfl).alloc _).gr g).alloc (.map #[] 0)).alloc o).cell 1 (by simp)
  obtain ⟨n1, n2, ⟨a, rfl, rfl⟩ | ⟨a, off, cap, rfl, h3, hcap, h4⟩⟩ := id hL
  · rcases a with _ | a
    all_goals
      go_enter Try.func29, Try.ntmps29
      go_wp2_with fail
      with_reducible refine Calls.mono (Calls.gr0 (hR _ (by repeat (first | exact Below.refl _ _ | assumption | (refine Below.setCell ?_ (by (first | omega | (simp; done) | (simp; omega) | (simp at *; omega))) _) | (refine Below.alloc ?_ (by (first | omega | (simp; done) | (simp; omega) | (simp at *; omega))) _) | (refine Below.drew ?_) | (refine Gr.into _ ?_ (by (first | omega | (simp; done) | (simp; omega) | (simp at *; omega)))))))) ?_
      rintro e w' ⟨rfl, g, rfl⟩
      have hgl := g.le
      try simp only [World.size_alloc] at hgl
      try simp only [World.size_setCell] at hgl
      go_wp2_with fail
    · refine wp_named (fun V hV => ?_)
      have hBV : Below w.heap.size w V := by rw [hV]; exact (by repeat (first | exact Below.refl _ _ | assumption | (refine Below.setCell ?_ (by (first | omega | (simp; done) | (simp; omega) | (simp at *; omega))) _) | (refine Below.alloc ?_ (by (first | omega | (simp; done) | (simp; omega) | (simp at *; omega))) _) | (refine Below.drew ?_) | (refine Gr.into _ ?_ (by (first | omega | (simp; done) | (simp; omega) | (simp at *; omega))))))
      have x : RowAt V (w.heap.size) 25 [.int .i64 f, .slice none 0 0] := by rw [hV]; exact (by repeat (first | assumption | exact RowAt.new_at _ _ _ _ (by (first | omega | (simp; done) | (simp; omega) | (simp at *; omega))) | (refine RowAt.alloc ?_ _) | (refine RowAt.gr ?_ _) | (refine RowAt.setOther ?_ _ _ (by (first | omega | (simp; done) | (simp; omega) | (simp at *; omega)))) | (refine RowAt.drew ?_)))
      have rr : RowAt V (w.heap.size + 1) 25 [.int .i64 0, .slice none 0 0] := by rw [hV]; exact (by repeat (first | assumption | exact RowAt.new_at _ _ _ _ (by (first | omega | (simp; done) | (simp; omega) | (simp at *; omega))) | (refine RowAt.alloc ?_ _) | (refine RowAt.gr ?_ _) | (refine RowAt.setOther ?_ _ _ (by (first | omega | (simp; done) | (simp; omega) | (simp at *; omega)))) | (refine RowAt.drew ?_)))
      have q : RowAt V (g.world.heap.size + 1) 78 [.map (some g.world.heap.size), .int .i64 (f - 1)] := by rw [hV]; exact (by repeat (first | assumption | exact RowAt.new_at _ _ _ _ (by (first | omega | (simp; done) | (simp; omega) | (simp at *; omega))) | (refine RowAt.alloc ?_ _) | (refine RowAt.gr ?_ _) | (refine RowAt.setOther ?_ _ _ (by (first | omega | (simp; done) | (simp; omega) | (simp at *; omega)))) | (refine RowAt.drew ?_)))
      have hCV : CountsAt V g.world.heap.size [] := by rw [hV]; exact CountsAt.of (World.ownsMap.alloc (World.ownsMap_made _ _ _ _) _)
      clear hV
      obtain ⟨xc0, xc1, xf0, xf1, xl⟩ := x.two
      obtain ⟨rrc0, rrc1, rrf0, rrf1, rrl⟩ := rr.two
      obtain ⟨qc0, qc1, qf0, qf1, ql⟩ := q.two
      generalize g.world.heap.size = bm at *
      clear g
      refine wp_loop_rounds 1 ?_
      rw [rounds_succ]
      have qE := q
      have rrE := rr
      have rrEl := rrl
      have hCE : CountsAt V bm (lowL []) := hCV
      have hBE := hBV
      go_wp2_with fail
      refine Calls.mono (end_any _ bm (f - 1) _ _ qE hCE hGL.rising (by omega) hGL.fits) ?_
      rintro e w4 ⟨v', rfl, hv', hnew, hb4⟩
      have rr4 := rrE.below hb4 rrEl
      obtain ⟨r4c0, r4c1, r4f0, r4f1, r4l⟩ := rr4.two
      have hB4 : Below w.heap.size w w4 := hBE.trans (hb4.mono hBE.size)
      generalize hN : lowL [] = N at *
      have hv2 : ∀ u1 u2 : Value, BinsAt ((w4.setCell ⟨w.heap.size + 1, 0, none⟩ u1).setCell ⟨w.heap.size + 1, 1, none⟩ u2).heap.size ((w4.setCell ⟨w.heap.size + 1, 0, none⟩ u1).setCell ⟨w.heap.size + 1, 1, none⟩ u2) v' N := fun u1 u2 =>
        (hv'.setOther _ _ (fun k hk => by have := hnew k hk; show w.heap.size + 1 ≠ k; omega)).setOther _ _ (fun k hk => by have := hnew k hk; show w.heap.size + 1 ≠ k; omega) |>.mono (by simp)
      subst hN
      obtain ⟨n1, n2, ⟨a', rfl, hnil⟩ | ⟨a', o', c', rfl, n3, n4, n5⟩⟩ := hv'
      · rcases a' with _ | a'
        all_goals
          go_wp2_with fail
        · exact bodyPost_ret (v := .tuple #[HistV (f - 1) (.slice none 0 0), .int .i64 0]) (by simp [results, Try.results29, go_sem, r4c0, r4c1, r4l]) rfl ⟨_, rfl, hv2 _ _, (by repeat (first | exact Below.refl _ _ | assumption | (refine Below.setCell ?_ (by (first | omega | (simp; done) | (simp; omega) | (simp at *; omega))) _) | (refine Below.alloc ?_ (by (first | omega | (simp; done) | (simp; omega) | (simp at *; omega))) _) | (refine Below.drew ?_) | (refine Gr.into _ ?_ (by (first | omega | (simp; done) | (simp; omega) | (simp at *; omega))))))⟩
        · exact bodyPost_ret (v := .tuple #[HistV (f - 1) (.slice (some a') 0 0), .int .i64 0]) (by simp [results, Try.results29, go_sem, r4c0, r4c1, r4l]) rfl ⟨_, rfl, hv2 _ _, (by repeat (first | exact Below.refl _ _ | assumption | (refine Below.setCell ?_ (by (first | omega | (simp; done) | (simp; omega) | (simp at *; omega))) _) | (refine Below.alloc ?_ (by (first | omega | (simp; done) | (simp; omega) | (simp at *; omega))) _) | (refine Below.drew ?_) | (refine Gr.into _ ?_ (by (first | omega | (simp; done) | (simp; omega) | (simp at *; omega))))))⟩
      · go_wp2_with fail
        exact bodyPost_ret (v := .tuple #[HistV (f - 1) (.slice (some ⟨a', o', none⟩) (lowL []).length c'), .int .i64 0]) (by simp [results, Try.results29, go_sem, r4c0, r4c1, r4l]) rfl ⟨_, rfl, hv2 _ _, (by repeat (first | exact Below.refl _ _ | assumption | (refine Below.setCell ?_ (by (first | omega | (simp; done) | (simp; omega) | (simp at *; omega))) _) | (refine Below.alloc ?_ (by (first | omega | (simp; done) | (simp; omega) | (simp at *; omega))) _) | (refine Below.drew ?_) | (refine Gr.into _ ?_ (by (first | omega | (simp; done) | (simp; omega) | (simp at *; omega))))))⟩
    · refine wp_named (fun V hV => ?_)
      have hBV : Below w.heap.size w V := by rw [hV]; exact (by repeat (first | exact Below.refl _ _ | assumption | (refine Below.setCell ?_ (by (first | omega | (simp; done) | (simp; omega) | (simp at *; omega))) _) | (refine Below.alloc ?_ (by (first | omega | (simp; done) | (simp; omega) | (simp at *; omega))) _) | (refine Below.drew ?_) | (refine Gr.into _ ?_ (by (first | omega | (simp; done) | (simp; omega) | (simp at *; omega))))))
      have x : RowAt V (w.heap.size) 25 [.int .i64 f, .slice (some a) 0 0] := by rw [hV]; exact (by repeat (first | assumption | exact RowAt.new_at _ _ _ _ (by (first | omega | (simp; done) | (simp; omega) | (simp at *; omega))) | (refine RowAt.alloc ?_ _) | (refine RowAt.gr ?_ _) | (refine RowAt.setOther ?_ _ _ (by (first | omega | (simp; done) | (simp; omega) | (simp at *; omega)))) | (refine RowAt.drew ?_)))
      have rr : RowAt V (w.heap.size + 1) 25 [.int .i64 0, .slice none 0 0] := by rw [hV]; exact (by repeat (first | assumption | exact RowAt.new_at _ _ _ _ (by (first | omega | (simp; done) | (simp; omega) | (simp at *; omega))) | (refine RowAt.alloc ?_ _) | (refine RowAt.gr ?_ _) | (refine RowAt.setOther ?_ _ _ (by (first | omega | (simp; done) | (simp; omega) | (simp at *; omega)))) | (refine RowAt.drew ?_)))
      have q : RowAt V (g.world.heap.size + 1) 78 [.map (some g.world.heap.size), .int .i64 (f - 1)] := by rw [hV]; exact (by repeat (first | assumption | exact RowAt.new_at _ _ _ _ (by (first | omega | (simp; done) | (simp; omega) | (simp at *; omega))) | (refine RowAt.alloc ?_ _) | (refine RowAt.gr ?_ _) | (refine RowAt.setOther ?_ _ _ (by (first | omega | (simp; done) | (simp; omega) | (simp at *; omega)))) | (refine RowAt.drew ?_)))
      have hCV : CountsAt V g.world.heap.size [] := by rw [hV]; exact CountsAt.of (World.ownsMap.alloc (World.ownsMap_made _ _ _ _) _)
      clear hV
      obtain ⟨xc0, xc1, xf0, xf1, xl⟩ := x.two
      obtain ⟨rrc0, rrc1, rrf0, rrf1, rrl⟩ := rr.two
      obtain ⟨qc0, qc1, qf0, qf1, ql⟩ := q.two
      generalize g.world.heap.size = bm at *
      clear g
      refine wp_loop_rounds 1 ?_
      rw [rounds_succ]
      have qE := q
      have rrE := rr
      have rrEl := rrl
      have hCE : CountsAt V bm (lowL []) := hCV
      have hBE := hBV
      go_wp2_with fail
      refine Calls.mono (end_any _ bm (f - 1) _ _ qE hCE hGL.rising (by omega) hGL.fits) ?_
      rintro e w4 ⟨v', rfl, hv', hnew, hb4⟩
      have rr4 := rrE.below hb4 rrEl
      obtain ⟨r4c0, r4c1, r4f0, r4f1, r4l⟩ := rr4.two
      have hB4 : Below w.heap.size w w4 := hBE.trans (hb4.mono hBE.size)
      generalize hN : lowL [] = N at *
      have hv2 : ∀ u1 u2 : Value, BinsAt ((w4.setCell ⟨w.heap.size + 1, 0, none⟩ u1).setCell ⟨w.heap.size + 1, 1, none⟩ u2).heap.size ((w4.setCell ⟨w.heap.size + 1, 0, none⟩ u1).setCell ⟨w.heap.size + 1, 1, none⟩ u2) v' N := fun u1 u2 =>
        (hv'.setOther _ _ (fun k hk => by have := hnew k hk; show w.heap.size + 1 ≠ k; omega)).setOther _ _ (fun k hk => by have := hnew k hk; show w.heap.size + 1 ≠ k; omega) |>.mono (by simp)
      subst hN
      obtain ⟨n1, n2, ⟨a', rfl, hnil⟩ | ⟨a', o', c', rfl, n3, n4, n5⟩⟩ := hv'
      · rcases a' with _ | a'
        all_goals
          go_wp2_with fail
        · exact bodyPost_ret (v := .tuple #[HistV (f - 1) (.slice none 0 0), .int .i64 0]) (by simp [results, Try.results29, go_sem, r4c0, r4c1, r4l]) rfl ⟨_, rfl, hv2 _ _, (by repeat (first | exact Below.refl _ _ | assumption | (refine Below.setCell ?_ (by (first | omega | (simp; done) | (simp; omega) | (simp at *; omega))) _) | (refine Below.alloc ?_ (by (first | omega | (simp; done) | (simp; omega) | (simp at *; omega))) _) | (refine Below.drew ?_) | (refine Gr.into _ ?_ (by (first | omega | (simp; done) | (simp; omega) | (simp at *; omega))))))⟩
        · exact bodyPost_ret (v := .tuple #[HistV (f - 1) (.slice (some a') 0 0), .int .i64 0]) (by simp [results, Try.results29, go_sem, r4c0, r4c1, r4l]) rfl ⟨_, rfl, hv2 _ _, (by repeat (first | exact Below.refl _ _ | assumption | (refine Below.setCell ?_ (by (first | omega | (simp; done) | (simp; omega) | (simp at *; omega))) _) | (refine Below.alloc ?_ (by (first | omega | (simp; done) | (simp; omega) | (simp at *; omega))) _) | (refine Below.drew ?_) | (refine Gr.into _ ?_ (by (first | omega | (simp; done) | (simp; omega) | (simp at *; omega))))))⟩
      · go_wp2_with fail
        exact bodyPost_ret (v := .tuple #[HistV (f - 1) (.slice (some ⟨a', o', none⟩) (lowL []).length c'), .int .i64 0]) (by simp [results, Try.results29, go_sem, r4c0, r4c1, r4l]) rfl ⟨_, rfl, hv2 _ _, (by repeat (first | exact Below.refl _ _ | assumption | (refine Below.setCell ?_ (by (first | omega | (simp; done) | (simp; omega) | (simp at *; omega))) _) | (refine Below.alloc ?_ (by (first | omega | (simp; done) | (simp; omega) | (simp at *; omega))) _) | (refine Below.drew ?_) | (refine Gr.into _ ?_ (by (first | omega | (simp; done) | (simp; omega) | (simp at *; omega))))))⟩
  · go_enter Try.func29, Try.ntmps29
    go_wp2_with fail
    with_reducible refine Calls.mono (Calls.gr0 (hR _ (by repeat (first | exact Below.refl _ _ | assumption | (refine Below.setCell ?_ (by (first | omega | (simp; done) | (simp; omega) | (simp at *; omega))) _) | (refine Below.alloc ?_ (by (first | omega | (simp; done) | (simp; omega) | (simp at *; omega))) _) | (refine Below.drew ?_) | (refine Gr.into _ ?_ (by (first | omega | (simp; done) | (simp; omega) | (simp at *; omega)))))))) ?_
    rintro e w' ⟨rfl, g, rfl⟩
    have hgl := g.le
    try simp only [World.size_alloc] at hgl
    try simp only [World.size_setCell] at hgl
    go_wp2_with fail
    refine wp_named (fun V hV => ?_)
    have hBV : Below w.heap.size w V := by rw [hV]; exact (by repeat (first | exact Below.refl _ _ | assumption | (refine Below.setCell ?_ (by (first | omega | (simp; done) | (simp; omega) | (simp at *; omega))) _) | (refine Below.alloc ?_ (by (first | omega | (simp; done) | (simp; omega) | (simp at *; omega))) _) | (refine Below.drew ?_) | (refine Gr.into _ ?_ (by (first | omega | (simp; done) | (simp; omega) | (simp at *; omega))))))
    have x : RowAt V (w.heap.size) 25 [.int .i64 f, .slice (some ⟨a, off, none⟩) L.length cap] := by rw [hV]; exact (by repeat (first | assumption | exact RowAt.new_at _ _ _ _ (by (first | omega | (simp; done) | (simp; omega) | (simp at *; omega))) | (refine RowAt.alloc ?_ _) | (refine RowAt.gr ?_ _) | (refine RowAt.setOther ?_ _ _ (by (first | omega | (simp; done) | (simp; omega) | (simp at *; omega)))) | (refine RowAt.drew ?_)))
    have rr : RowAt V (w.heap.size + 1) 25 [.int .i64 0, .slice none 0 0] := by rw [hV]; exact (by repeat (first | assumption | exact RowAt.new_at _ _ _ _ (by (first | omega | (simp; done) | (simp; omega) | (simp at *; omega))) | (refine RowAt.alloc ?_ _) | (refine RowAt.gr ?_ _) | (refine RowAt.setOther ?_ _ _ (by (first | omega | (simp; done) | (simp; omega) | (simp at *; omega)))) | (refine RowAt.drew ?_)))
    have q : RowAt V (g.world.heap.size + 1) 78 [.map (some g.world.heap.size), .int .i64 (f - 1)] := by rw [hV]; exact (by repeat (first | assumption | exact RowAt.new_at _ _ _ _ (by (first | omega | (simp; done) | (simp; omega) | (simp at *; omega))) | (refine RowAt.alloc ?_ _) | (refine RowAt.gr ?_ _) | (refine RowAt.setOther ?_ _ _ (by (first | omega | (simp; done) | (simp; omega) | (simp at *; omega)))) | (refine RowAt.drew ?_)))
    have hCV : CountsAt V g.world.heap.size [] := by rw [hV]; exact CountsAt.of (World.ownsMap.alloc (World.ownsMap_made _ _ _ _) _)
    clear hV
    obtain ⟨xc0, xc1, xf0, xf1, xl⟩ := x.two
    obtain ⟨rrc0, rrc1, rrf0, rrf1, rrl⟩ := rr.two
    obtain ⟨qc0, qc1, qf0, qf1, ql⟩ := q.two
    generalize g.world.heap.size = bm at *
    clear g
    go_loopw [28] (fun i wr => ∃ k : Nat, k ≤ L.length ∧ i = .int .i64 k ∧ CountsAt wr bm (((L.take k).map lowB).foldl addB []) ∧ RowAt wr (w.heap.size + 1) 25 [.int .i64 0, .slice none 0 0] ∧ RowAt wr (bm + 1) 78 [.map (some bm), .int .i64 (f - 1)] ∧ Below w.heap.size w wr ∧ V.heap.size ≤ wr.heap.size)
      (fun i _ => L.length - (intOf i).toNat)
    case atStart => exact ⟨0, by omega, rfl, by simpa using hCV, rr, q, hBV, Nat.le_refl _⟩
    case round =>
      obtain ⟨k, hk, rfl, hC, rrr, rq, hB, hVs⟩ := hrel
      obtain ⟨rqc0, rqc1, rqf0, rqf1, rql⟩ := rq.two
      have rrrl := rrr.lt
      by_cases hlk : k < L.length
      · obtain ⟨hc0, hc1⟩ := h4 k hlk
        rw [← hB.cell (p := ⟨a, off + k * 2, none⟩) h3] at hc0
        rw [← hB.cell (p := ⟨a, off + k * 2 + 1, none⟩) h3] at hc1
        have hin := n1 _ (List.getElem_mem hlk)
        have hmk := hmem _ (List.getElem_mem hlk)
        have hal : a < wr.heap.size := Nat.lt_of_lt_of_le h3 hB.size
        have hstep : ((L.take (k + 1)).map lowB).foldl addB [] = addB (((L.take k).map lowB).foldl addB []) (lowB L[k]) := by
          rw [List.take_succ_eq_append_getElem hlk, List.map_append, List.foldl_append]; rfl
        have hlen := addBs_length ((L.take k).map lowB) []
        rw [List.length_map, List.length_take_of_le (by omega)] at hlen
        simp only [List.length_nil, Nat.zero_add] at hlen
        have hfit := fit_addBs ((L.take k).map lowB) (M := []) (fun p hp => by cases hp)
        rcases hL : L[k] with ⟨p, n⟩
        rw [hL] at hin hc0 hc1 hstep hmk
        simp only [lowB] at hin hstep hmk
        have HS := Lib.hid hstep
        clear hstep h4
        generalize (((L.take k).map lowB).foldl addB []) = M at *
        go_wp2_with fail
        refine Calls.named (fun X hX => ?_)
        have hBX : Below wr.heap.size wr X := by rw [hX]; exact (by repeat (first | exact Below.refl _ _ | assumption | (refine Below.setCell ?_ (by (first | omega | (simp; done) | (simp; omega) | (simp at *; omega))) _) | (refine Below.alloc ?_ (by (first | omega | (simp; done) | (simp; omega) | (simp at *; omega))) _) | (refine Below.drew ?_) | (refine Gr.into _ ?_ (by (first | omega | (simp; done) | (simp; omega) | (simp at *; omega))))))
        have b : RowAt X (wr.heap.size + 1) 65 [.int .i64 ((p + 1) / 2), .int .u64 n] := by rw [hX]; exact (by repeat (first | assumption | exact RowAt.new_at _ _ _ _ (by (first | omega | (simp; done) | (simp; omega) | (simp at *; omega))) | (refine RowAt.alloc ?_ _) | (refine RowAt.gr ?_ _) | (refine RowAt.setOther ?_ _ _ (by (first | omega | (simp; done) | (simp; omega) | (simp at *; omega)))) | (refine RowAt.drew ?_)))
        have r2 : RowAt X (w.heap.size + 1) 25 [.int .i64 0, .slice none 0 0] := by rw [hX]; exact (by repeat (first | assumption | exact RowAt.new_at _ _ _ _ (by (first | omega | (simp; done) | (simp; omega) | (simp at *; omega))) | (refine RowAt.alloc ?_ _) | (refine RowAt.gr ?_ _) | (refine RowAt.setOther ?_ _ _ (by (first | omega | (simp; done) | (simp; omega) | (simp at *; omega)))) | (refine RowAt.drew ?_)))
        have q2 : RowAt X (bm + 1) 78 [.map (some bm), .int .i64 (f - 1)] := by rw [hX]; exact (by repeat (first | assumption | exact RowAt.new_at _ _ _ _ (by (first | omega | (simp; done) | (simp; omega) | (simp at *; omega))) | (refine RowAt.alloc ?_ _) | (refine RowAt.gr ?_ _) | (refine RowAt.setOther ?_ _ _ (by (first | omega | (simp; done) | (simp; omega) | (simp at *; omega)))) | (refine RowAt.drew ?_)))
        clear hX
        obtain ⟨bc0, bc1, bf0, bf1, bl⟩ := b.two
        obtain ⟨r2c0, r2c1, r2f0, r2f1, r2l⟩ := r2.two
        obtain ⟨q2c0, q2c1, q2f0, q2f1, q2l⟩ := q2.two
        have hCX : CountsAt X bm M := hC.below hBX hC.lt
        have hone : ∀ b ∈ [((p + 1) / 2, n)], -9223372036854775808 ≤ b.1 ∧ b.1 ≤ 9223372036854775807 ∧ b.2 < 18446744073709551616 := fun b hb => by
          obtain rfl : b = ((p + 1) / 2, n) := by simpa using hb
          exact ⟨by show _ ≤ (p + 1) / 2; omega, by show (p + 1) / 2 ≤ _; omega, hin.2.2⟩
        have hBs := hB.size
        have hbml := hC.lt
        refine Calls.mono (add_any (w.heap.size + 2) (bm + 1) bm (f - 1) _ [((p + 1) / 2, n)] M X ⟨hone, by simp, .inr ⟨wr.heap.size + 1, 0, 1, rfl, bl, by simp, fun i hi => by
          obtain rfl : i = 0 := by simpa using hi
          exact ⟨bc0, bc1⟩⟩⟩ (by simp; omega) q2 hCX hfit (by omega) (by omega)) ?_
        rintro e w3 ⟨rfl, hC3, hr3, hB3, hO3⟩
        simp only [List.foldl_cons, List.foldl_nil] at hC3
        have rr3 := r2.below hB3 (by omega)
        have hXs := hBX.size
        have h3s := hB3.size
        go_wp2_with fail
        go_roundw
        case rel => exact ⟨k + 1, by omega, by go_num, by rw [HS.out]; exact hC3, rr3, hr3, hB.trans ((hBX.mono (by omega)).trans (hB3.mono (by omega))), by omega⟩
        case measure => simp [intOf]; omega
      · obtain rfl : k = L.length := by omega
        rw [List.take_length] at hC
        have qE := rq
        have rrE := rrr
        have rrEl := rrrl
        have hCE : CountsAt wr bm (lowL L) := hC
        have hBE := hB
        go_wp2_with fail
        refine Calls.mono (end_any _ bm (f - 1) _ _ qE hCE hGL.rising (by omega) hGL.fits) ?_
        rintro e w4 ⟨v', rfl, hv', hnew, hb4⟩
        have rr4 := rrE.below hb4 rrEl
        obtain ⟨r4c0, r4c1, r4f0, r4f1, r4l⟩ := rr4.two
        have hB4 : Below w.heap.size w w4 := hBE.trans (hb4.mono hBE.size)
        generalize hN : lowL L = N at *
        have hv2 : ∀ u1 u2 : Value, BinsAt ((w4.setCell ⟨w.heap.size + 1, 0, none⟩ u1).setCell ⟨w.heap.size + 1, 1, none⟩ u2).heap.size ((w4.setCell ⟨w.heap.size + 1, 0, none⟩ u1).setCell ⟨w.heap.size + 1, 1, none⟩ u2) v' N := fun u1 u2 =>
          (hv'.setOther _ _ (fun k hk => by have := hnew k hk; show w.heap.size + 1 ≠ k; omega)).setOther _ _ (fun k hk => by have := hnew k hk; show w.heap.size + 1 ≠ k; omega) |>.mono (by simp)
        subst hN
        obtain ⟨n1, n2, ⟨a', rfl, hnil⟩ | ⟨a', o', c', rfl, n3, n4, n5⟩⟩ := hv'
        · rcases a' with _ | a'
          all_goals
            go_wp2_with fail
          · exact bodyPost_ret (v := .tuple #[HistV (f - 1) (.slice none 0 0), .int .i64 0]) (by simp [results, Try.results29, go_sem, r4c0, r4c1, r4l]) rfl ⟨_, rfl, hv2 _ _, (by repeat (first | exact Below.refl _ _ | assumption | (refine Below.setCell ?_ (by (first | omega | (simp; done) | (simp; omega) | (simp at *; omega))) _) | (refine Below.alloc ?_ (by (first | omega | (simp; done) | (simp; omega) | (simp at *; omega))) _) | (refine Below.drew ?_) | (refine Gr.into _ ?_ (by (first | omega | (simp; done) | (simp; omega) | (simp at *; omega))))))⟩
          · exact bodyPost_ret (v := .tuple #[HistV (f - 1) (.slice (some a') 0 0), .int .i64 0]) (by simp [results, Try.results29, go_sem, r4c0, r4c1, r4l]) rfl ⟨_, rfl, hv2 _ _, (by repeat (first | exact Below.refl _ _ | assumption | (refine Below.setCell ?_ (by (first | omega | (simp; done) | (simp; omega) | (simp at *; omega))) _) | (refine Below.alloc ?_ (by (first | omega | (simp; done) | (simp; omega) | (simp at *; omega))) _) | (refine Below.drew ?_) | (refine Gr.into _ ?_ (by (first | omega | (simp; done) | (simp; omega) | (simp at *; omega))))))⟩
        · go_wp2_with fail
          exact bodyPost_ret (v := .tuple #[HistV (f - 1) (.slice (some ⟨a', o', none⟩) (lowL L).length c'), .int .i64 0]) (by simp [results, Try.results29, go_sem, r4c0, r4c1, r4l]) rfl ⟨_, rfl, hv2 _ _, (by repeat (first | exact Below.refl _ _ | assumption | (refine Below.setCell ?_ (by (first | omega | (simp; done) | (simp; omega) | (simp at *; omega))) _) | (refine Below.alloc ?_ (by (first | omega | (simp; done) | (simp; omega) | (simp at *; omega))) _) | (refine Below.drew ?_) | (refine Gr.into _ ?_ (by (first | omega | (simp; done) | (simp; omega) | (simp at *; omega))))))⟩
end Go.Proofs.Ytnoemopaplopdaa
