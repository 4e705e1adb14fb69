/- The references' Merge. -/
import Derived.Test.YtnoemopaplopdaaK6
namespace Go.Proofs.Ytnoemopaplopdaa
open Go.RowKit Go.Maps

def putRs (L K : List (Int × Nat)) : List (Int × Nat) := K.foldl (fun M b => putR b.1 b.2 M) L
theorem putRs_length : ∀ (K L : List (Int × Nat)), (putRs L K).length ≤ L.length + K.length
  | [], L => by simp [putRs]
  | b :: K, L => by
    have h1 := putRs_length K (putR b.1 b.2 L)
    have h2 := putR_length b.1 b.2 L
    unfold putRs at h1 ⊢
    simp only [List.foldl_cons, List.length_cons]
    omega
theorem putRs_addBs {f : Int} : ∀ (K : List (Int × Nat)) {L : List (Int × Nat)}, Canon f L → (∀ b ∈ K, (boundsB f b.1).isSome = true ∧ b.2 ≤ maxU) → putRs L K = K.foldl addB L
  | [], _, _, _ => rfl
  | b :: K, L, hL, h => by
    have hb := h b (by simp)
    have ih := putRs_addBs K (hL.addB (b := b) hb.1) fun c hc => h c (by simp [hc])
    unfold putRs at ih ⊢
    simp only [List.foldl_cons]
    rw [putR_addB hL hb.1 hb.2]
    exact ih
theorem rmerge_no1 (f h : Int) (v u : Value) (L : List (Int × Nat)) (w : World) (hL : BinsAt w.heap.size w v L) (h0 : rightL f L = false) :
    Calls Try.prog 30 #[HistV f v, HistV h u] w fun e w' => e = histRes 0 (.slice none 0 0) 90 ∧ Below w.heap.size w w' := by
  have hR : ∀ W, Below w.heap.size w W → Calls Try.prog 20 #[HistV f v] W fun e w' => e = .returned (.bool false) ∧ Below W.heap.size W w' := fun W hb => h0 ▸ rright_any f v L W (hL.at_ hb)
  go_enter Try.func30, Try.ntmps30
  go_wp2_with fail
  with_reducible refine Calls.mono (Calls.gr0 (hR _ (by repeat (first | exact Below.refl _ _ | assumption | (refine Below.setCell ?_ (by (first | omega | (simp; done) | (simp; omega) | (simp at *; omega))) _) | (refine Below.alloc ?_ (by (first | omega | (simp; done) | (simp; omega) | (simp at *; omega))) _) | (refine Below.drew ?_) | (refine Gr.into _ ?_ (by (first | omega | (simp; done) | (simp; omega) | (simp at *; omega)))))))) ?_
  rintro e w' ⟨rfl, g, rfl⟩
  have hgl := g.le
  try simp only [World.size_alloc] at hgl
  try simp only [World.size_setCell] at hgl
  go_wp2_with fail
  exact bodyPost_ret (v := .tuple #[HistV 0 (.slice none 0 0), .int .i64 90]) (by simp [results, Try.results30, go_sem]) rfl ⟨rfl, (by repeat (first | exact Below.refl _ _ | assumption | (refine Below.setCell ?_ (by (first | omega | (simp; done) | (simp; omega) | (simp at *; omega))) _) | (refine Below.alloc ?_ (by (first | omega | (simp; done) | (simp; omega) | (simp at *; omega))) _) | (refine Below.drew ?_) | (refine Gr.into _ ?_ (by (first | omega | (simp; done) | (simp; omega) | (simp at *; omega))))))⟩
theorem rmerge_no2 (f h : Int) (v u : Value) (L K : List (Int × Nat)) (w : World) (hL : BinsAt w.heap.size w v L) (hK : BinsAt w.heap.size w u K) (h0 : rightL f L = true) (h1 : rightL h K = false ∨ f ≠ h) :
    Calls Try.prog 30 #[HistV f v, HistV h u] w fun e w' => e = histRes 0 (.slice none 0 0) 90 ∧ Below w.heap.size w w' := by
  have hR : ∀ W, Below w.heap.size w W → Calls Try.prog 20 #[HistV f v] W fun e w' => e = .returned (.bool true) ∧ Below W.heap.size W w' := fun W hb => h0 ▸ rright_any f v L W (hL.at_ hb)
  have hR2 := fun W hb => rright_any h u K W (hK.at_ hb)
  cases hk : rightL h K
  · rw [hk] at hR2
    go_enter Try.func30, Try.ntmps30
    go_wp2_with fail
    with_reducible refine Calls.mono (Calls.gr0 (hR _ (by repeat (first | exact Below.refl _ _ | assumption | (refine Below.setCell ?_ (by (first | omega | (simp; done) | (simp; omega) | (simp at *; omega))) _) | (refine Below.alloc ?_ (by (first | omega | (simp; done) | (simp; omega) | (simp at *; omega))) _) | (refine Below.drew ?_) | (refine Gr.into _ ?_ (by (first | omega | (simp; done) | (simp; omega) | (simp at *; omega)))))))) ?_
    rintro e w' ⟨rfl, g, rfl⟩
    have hgl := g.le
    try simp only [World.size_alloc] at hgl
    try simp only [World.size_setCell] at hgl
    go_wp2_with fail
    with_reducible refine Calls.mono (Calls.gr (hR2 _ (by repeat (first | exact Below.refl _ _ | assumption | (refine Below.setCell ?_ (by (first | omega | (simp; done) | (simp; omega) | (simp at *; omega))) _) | (refine Below.alloc ?_ (by (first | omega | (simp; done) | (simp; omega) | (simp at *; omega))) _) | (refine Below.drew ?_) | (refine Gr.into _ ?_ (by (first | omega | (simp; done) | (simp; omega) | (simp at *; omega)))))))) ?_
    rintro e w' ⟨rfl, g, rfl⟩
    have hgl := g.le
    try simp only [World.size_alloc] at hgl
    try simp only [World.size_setCell] at hgl
    go_wp2_with fail
    exact bodyPost_ret (v := .tuple #[HistV 0 (.slice none 0 0), .int .i64 90]) (by simp [results, Try.results30, go_sem]) rfl ⟨rfl, (by repeat (first | exact Below.refl _ _ | assumption | (refine Below.setCell ?_ (by (first | omega | (simp; done) | (simp; omega) | (simp at *; omega))) _) | (refine Below.alloc ?_ (by (first | omega | (simp; done) | (simp; omega) | (simp at *; omega))) _) | (refine Below.drew ?_) | (refine Gr.into _ ?_ (by (first | omega | (simp; done) | (simp; omega) | (simp at *; omega))))))⟩
  · rw [hk] at hR2 h1
    have h1 : f ≠ h := h1.resolve_left (by simp)
    have h2 : (f == h) = false := by simpa using h1
    go_enter Try.func30, Try.ntmps30
    go_wp2_with fail
    with_reducible refine Calls.mono (Calls.gr0 (hR _ (by repeat (first | exact Below.refl _ _ | assumption | (refine Below.setCell ?_ (by (first | omega | (simp; done) | (simp; omega) | (simp at *; omega))) _) | (refine Below.alloc ?_ (by (first | omega | (simp; done) | (simp; omega) | (simp at *; omega))) _) | (refine Below.drew ?_) | (refine Gr.into _ ?_ (by (first | omega | (simp; done) | (simp; omega) | (simp at *; omega)))))))) ?_
    rintro e w' ⟨rfl, g, rfl⟩
    have hgl := g.le
    try simp only [World.size_alloc] at hgl
    try simp only [World.size_setCell] at hgl
    go_wp2_with fail
    with_reducible refine Calls.mono (Calls.gr (hR2 _ (by repeat (first | exact Below.refl _ _ | assumption | (refine Below.setCell ?_ (by (first | omega | (simp; done) | (simp; omega) | (simp at *; omega))) _) | (refine Below.alloc ?_ (by (first | omega | (simp; done) | (simp; omega) | (simp at *; omega))) _) | (refine Below.drew ?_) | (refine Gr.into _ ?_ (by (first | omega | (simp; done) | (simp; omega) | (simp at *; omega)))))))) ?_
    rintro e w' ⟨rfl, g, rfl⟩
    have hgl := g.le
    try simp only [World.size_alloc] at hgl
    try simp only [World.size_setCell] at hgl
    go_wp2_with fail
    exact bodyPost_ret (v := .tuple #[HistV 0 (.slice none 0 0), .int .i64 90]) (by simp [results, Try.results30, go_sem]) rfl ⟨rfl, (by repeat (first | exact Below.refl _ _ | assumption | (refine Below.setCell ?_ (by (first | omega | (simp; done) | (simp; omega) | (simp at *; omega))) _) | (refine Below.alloc ?_ (by (first | omega | (simp; done) | (simp; omega) | (simp at *; omega))) _) | (refine Below.drew ?_) | (refine Gr.into _ ?_ (by (first | omega | (simp; done) | (simp; omega) | (simp at *; omega))))))⟩
set_option maxRecDepth 100000 in
set_option maxHeartbeats 2000000 in
theorem rmerge_yes (f : Int) (v u : Value) (L K : List (Int × Nat)) (w : World) (hL : BinsAt w.heap.size w v L) (hK : BinsAt w.heap.size w u K) (h0 : rightL f L = true) (h1 : rightL f K = true) (hlen : L.length ≤ 1000000) (hlenK : K.length ≤ 1000000) :
    Calls Try.prog 30 #[HistV f v, HistV f u] w fun e w' => ∃ v', e = histRes f v' 0 ∧ BinsAt w'.heap.size w' v' (putRs L K) ∧ Below w.heap.size w w' := by
  have hR : ∀ W, Below w.heap.size w W → Calls Try.prog 20 #[HistV f v] W fun e w' => e = .returned (.bool true) ∧ Below W.heap.size W w' := fun W hb => h0 ▸ rright_any f v L W (hL.at_ hb)
  have hR2 : ∀ W, Below w.heap.size w W → Calls Try.prog 20 #[HistV f u] W fun e w' => e = .returned (.bool true) ∧ Below W.heap.size W w' := fun W hb => h1 ▸ rright_any f u K W (hK.at_ hb)
  have hK1 := hK.1
  obtain ⟨p, cp, rfl, -, -⟩ := hL.form
  obtain ⟨q, cq, rfl, -, hq⟩ := hK.form
  go_enter Try.func30, Try.ntmps30
  go_wp2_with fail
  with_reducible refine Calls.mono (Calls.gr0 (hR _ (by repeat (first | exact Below.refl _ _ | assumption | (refine Below.setCell ?_ (by (first | omega | (simp; done) | (simp; omega) | (simp at *; omega))) _) | (refine Below.alloc ?_ (by (first | omega | (simp; done) | (simp; omega) | (simp at *; omega))) _) | (refine Below.drew ?_) | (refine Gr.into _ ?_ (by (first | omega | (simp; done) | (simp; omega) | (simp at *; omega)))))))) ?_
  rintro e w' ⟨rfl, g, rfl⟩
  have hgl := g.le
  try simp only [World.size_alloc] at hgl
  try simp only [World.size_setCell] at hgl
  go_wp2_with fail
  with_reducible refine Calls.mono (Calls.gr (hR2 _ (by repeat (first | exact Below.refl _ _ | assumption | (refine Below.setCell ?_ (by (first | omega | (simp; done) | (simp; omega) | (simp at *; omega))) _) | (refine Below.alloc ?_ (by (first | omega | (simp; done) | (simp; omega) | (simp at *; omega))) _) | (refine Below.drew ?_) | (refine Gr.into _ ?_ (by (first | omega | (simp; done) | (simp; omega) | (simp at *; omega)))))))) ?_
  rintro e w' ⟨rfl, g, rfl⟩
  have hgl := g.le
  try simp only [World.size_alloc] at hgl
  try simp only [World.size_setCell] at hgl
  go_wp2_with fail
  refine wp_named (fun V hV => ?_)
  have hBV : Below w.heap.size w V := by rw [hV]; exact (by repeat (first | exact Below.refl _ _ | assumption | (refine Below.setCell ?_ (by (first | omega | (simp; done) | (simp; omega) | (simp at *; omega))) _) | (refine Below.alloc ?_ (by (first | omega | (simp; done) | (simp; omega) | (simp at *; omega))) _) | (refine Below.drew ?_) | (refine Gr.into _ ?_ (by (first | omega | (simp; done) | (simp; omega) | (simp at *; omega))))))
  have x : RowAt V (w.heap.size) 25 [.int .i64 f, .slice p L.length cp] := by rw [hV]; exact (by repeat (first | assumption | exact RowAt.new_at _ _ _ _ (by (first | omega | (simp; done) | (simp; omega) | (simp at *; omega))) | (refine RowAt.alloc ?_ _) | (refine RowAt.gr ?_ _) | (refine RowAt.setOther ?_ _ _ (by (first | omega | (simp; done) | (simp; omega) | (simp at *; omega)))) | (refine RowAt.drew ?_)))
  have y : RowAt V (w.heap.size + 1) 25 [.int .i64 f, .slice q K.length cq] := by rw [hV]; exact (by repeat (first | assumption | exact RowAt.new_at _ _ _ _ (by (first | omega | (simp; done) | (simp; omega) | (simp at *; omega))) | (refine RowAt.alloc ?_ _) | (refine RowAt.gr ?_ _) | (refine RowAt.setOther ?_ _ _ (by (first | omega | (simp; done) | (simp; omega) | (simp at *; omega)))) | (refine RowAt.drew ?_)))
  have r : RowAt V (w.heap.size + 1 + 1) 25 [.int .i64 0, .slice none 0 0] := by rw [hV]; exact (by repeat (first | assumption | exact RowAt.new_at _ _ _ _ (by (first | omega | (simp; done) | (simp; omega) | (simp at *; omega))) | (refine RowAt.alloc ?_ _) | (refine RowAt.gr ?_ _) | (refine RowAt.setOther ?_ _ _ (by (first | omega | (simp; done) | (simp; omega) | (simp at *; omega)))) | (refine RowAt.drew ?_)))
  clear hV
  obtain ⟨xc0, xc1, xf0, xf1, xl⟩ := x.two
  obtain ⟨yc0, yc1, yf0, yf1, yl⟩ := y.two
  obtain ⟨rc0, rc1, rf0, rf1, rl⟩ := r.two
  clear hgl g
  have hVs := hBV.size
  go_loopw [6, 7] (fun lv i wr => ∃ k : Nat, k ≤ K.length ∧ i = .int .i64 k ∧ BinsAt wr.heap.size wr lv (putRs L (K.take k)) ∧ (putRs L (K.take k) ≠ [] → ∀ j, lv.ownBlock = some j → w.heap.size + 1 + 1 ≠ j) ∧ Below V.heap.size V wr)
    (fun _ i _ => K.length - (intOf i).toNat)
  case atStart => exact ⟨0, by omega, rfl, by simpa [putRs] using hL.at_ hBV, fun hne j hj => by have := hL.own j hj (by simpa [putRs] using hne); omega, Below.refl _ _⟩
  case round =>
    obtain ⟨k, hk, rfl, hl, hown, hBv⟩ := hrel
    have hB : Below w.heap.size w wr := hBV.trans (hBv.mono hVs)
    have x2 := x.below hBv xl
    have y2 := y.below hBv yl
    have r2 := r.below hBv rl
    obtain ⟨x2c0, x2c1, -, -, x2l⟩ := x2.two
    obtain ⟨y2c0, y2c1, -, -, y2l⟩ := y2.two
    obtain ⟨r2c0, r2c1, r2f0, r2f1, r2l⟩ := r2.two
    have hBs := hBv.size
    obtain ⟨lp, lc, hle, -⟩ := hl.form
    subst hle
    by_cases hlk : k < K.length
    · have hki : (k : Int) < K.length := by omega
      obtain ⟨a, off, rfl, ha, hc⟩ := hq (by rintro rfl; simp at hlk)
      obtain ⟨hc0, hc1⟩ := hc k hlk
      rw [← hB.cell (p := ⟨a, off + k * 2, none⟩) ha] at hc0
      rw [← hB.cell (p := ⟨a, off + k * 2 + 1, none⟩) ha] at hc1
      have hal : a < wr.heap.size := by have := hB.size; omega
      have hin := hK1 _ (List.getElem_mem hlk)
      have hstep : putRs L (K.take (k + 1)) = putR K[k].1 K[k].2 (putRs L (K.take k)) := by
        unfold putRs
        rw [List.take_succ_eq_append_getElem hlk, List.foldl_append]; rfl
      have hll := putRs_length (K.take k) L
      have htl : (K.take k).length = k := by simp; omega
      have hput := fun W hb => rput_any _ (putRs L (K.take k)) K[k].1 K[k].2 W (hl.at_ hb) ⟨hin.1, hin.2.1⟩ hin.2.2 (by omega)
      rw [← hstep] at hput
      rcases hLk : K[k] with ⟨b, m⟩
      rw [hLk] at hc0 hc1 hput
      have HP := Lib.hid hput
      clear hput hc hq hstep hLk
      generalize hML : putRs L (K.take k) = M at *
      generalize hml : M.length = ml at *
      have HM := Lib.hid hml
      clear hml
      go_wp2
      refine wp_region_gr_tail 13 (by kernel_rfl) (by kernel_rfl) ?_
      simp only [List.take_succ_cons, List.take_zero, List.drop_succ_cons, List.drop_zero]
      repeat (go_big_quiet_step (first | fail))
      refine wpQuiet_nil ?_
      intro g
      have hgl := g.le
      go_wp2_with fail
      refine Calls.mono (HP.out _ g.below) ?_
      rintro e w2 ⟨v', rfl, hv', hb, hor⟩
      have hb2 : Below wr.heap.size wr w2 := g.below.trans (hb.mono hgl)
      go_wp2_with fail
      go_roundw
      case rel =>
        refine ⟨k + 1, by omega, by go_num, hv', fun hne j hj => ?_, hBv.trans (hb2.mono hBs)⟩
        rcases hor with rfl | hor
        · obtain ⟨p', c', he', -⟩ := hv'.form
          have hlen' : ml = (putRs L (K.take (k + 1))).length := by simp at he'; exact he'.2.1
          have hM0 : M ≠ [] := by
            rintro rfl
            have := HM.out
            simp at this
            exact hne (List.eq_nil_of_length_eq_zero (by omega))
          exact hown hM0 j hj
        · have := hor j hj
          omega
      case measure => simp [intOf]; omega
    · obtain rfl : k = K.length := by omega
      rw [List.take_length] at hl hown
      go_wp2
      rw [List.take_length]
      refine bodyPost_ret (v := .tuple #[HistV f (.slice lp (putRs L K).length lc), .int .i64 0]) (by simp [results, Try.results30, go_sem, r2c0, r2c1, r2l]) rfl ?_
      refine ⟨_, rfl, ((hl.setMost _ _ hown).setMost _ _ hown).mono (by simp), ?_⟩
      exact (hB.setCell (p := ⟨w.heap.size + 1 + 1, 0, none⟩) (by show _ ≤ w.heap.size + 1 + 1; omega) _).setCell (p := ⟨w.heap.size + 1 + 1, 1, none⟩) (by show _ ≤ w.heap.size + 1 + 1; omega) _
end Go.Proofs.Ytnoemopaplopdaa
