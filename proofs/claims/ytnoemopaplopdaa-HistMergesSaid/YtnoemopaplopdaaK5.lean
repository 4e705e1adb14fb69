/- The references' Add, Same. -/
import Derived.Test.YtnoemopaplopdaaK4
namespace Go.Proofs.Ytnoemopaplopdaa
open Go.RowKit Go.Maps

theorem mem_putR {a : Int} {n : Nat} {p : Int × Nat} : ∀ {L : List (Int × Nat)}, p ∈ putR a n L → p.1 = a ∨ p ∈ L
  | [], h => by
    unfold putR at h
    split at h
    · cases h
    · obtain rfl : p = (a, n) := by simpa using h
      exact .inl rfl
  | (b, m) :: t, h => by
    unfold putR at h
    split at h
    · rcases List.mem_cons.1 h with rfl | h
      · exact .inr (by simp)
      · exact (mem_putR h).imp id fun h => by simp [h]
    · split at h
      · exact .inr h
      · split at h
        · rcases List.mem_cons.1 h with rfl | h
          · exact .inl rfl
          · exact .inr (by simp [h])
        · rcases List.mem_cons.1 h with rfl | h
          · exact .inl rfl
          · exact .inr h
theorem rising_putR {a : Int} {n : Nat} : ∀ {L : List (Int × Nat)}, Rising L → Rising (putR a n L)
  | [], _ => by unfold putR; split <;> simp [Rising]
  | (b, m) :: t, h => by
    have r := List.pairwise_cons.1 h
    unfold putR
    split
    · rename_i hlt
      refine List.pairwise_cons.2 ⟨fun q hq => ?_, rising_putR r.2⟩
      rcases mem_putR hq with h1 | h1
      · simp only; omega
      · exact r.1 q h1
    · split
      · exact h
      · split
        · rename_i heq
          subst heq
          exact List.pairwise_cons.2 ⟨r.1, r.2⟩
        · rename_i h1 h2 h3
          refine List.pairwise_cons.2 ⟨fun q hq => ?_, h⟩
          rcases List.mem_cons.1 hq with rfl | hq
          · simp only; omega
          · have := r.1 q hq
            simp only at this ⊢; omega
theorem nonzero_putR {a : Int} {n : Nat} : ∀ {L : List (Int × Nat)}, (∀ p ∈ L, p.2 ≠ 0) → ∀ p ∈ putR a n L, p.2 ≠ 0
  | [], _, p, h => by
    unfold putR at h
    split at h
    · cases h
    · rename_i h0
      obtain rfl : p = (a, n) := by simpa using h
      exact h0
  | (b, m) :: t, hz, p, h => by
    have hm : m ≠ 0 := hz (b, m) (by simp)
    unfold putR at h
    split at h
    · rcases List.mem_cons.1 h with rfl | h
      · exact hm
      · exact nonzero_putR (fun q hq => hz q (by simp [hq])) p h
    · split at h
      · exact hz p h
      · split at h
        · rcases List.mem_cons.1 h with rfl | h
          · show satU m n ≠ 0
            unfold satU maxU; omega
          · exact hz p (by simp [h])
        · rename_i h0 _
          rcases List.mem_cons.1 h with rfl | h
          · exact h0
          · exact hz p h
theorem getM_putR {a : Int} {n : Nat} (hn : n ≤ maxU) (c : Int) : ∀ {L : List (Int × Nat)}, Rising L → FitM L → getM (putR a n L) c = if c = a then satU (getM L a) n else getM L c
  | [], _, _ => by
    have e : getM [] a = 0 := rfl
    have e2 : getM [] c = 0 := rfl
    unfold putR
    split
    · rename_i h; rw [e, e2, h]; split <;> rfl
    · rw [getM_cons, e, e2]
      have h3 : satU 0 n = n := by unfold satU; omega
      rw [h3]
      by_cases h : a = c
      · rw [if_pos h, if_pos h.symm]
      · rw [if_neg h, if_neg (Ne.symm h)]
  | (b, m) :: t, hR, hF => by
    have r := List.pairwise_cons.1 hR
    have hm : m ≤ maxU := hF (b, m) (by simp)
    have ih := getM_putR (a := a) hn c r.2 fun p hp => hF p (by simp [hp])
    unfold putR
    split
    · rename_i hlt
      rw [getM_cons, ih, getM_cons, getM_cons, if_neg (by omega : ¬ b = a)]
      by_cases hc : b = c
      · rw [if_pos hc, if_pos hc, if_neg (by omega)]
      · rw [if_neg hc, if_neg hc]
    · split
      · rename_i h0
        rw [h0]
        have := getM_fit hF a
        have h3 : satU (getM ((b, m) :: t) a) 0 = getM ((b, m) :: t) a := by unfold satU; omega
        rw [h3]
        by_cases hc : c = a
        · rw [if_pos hc, hc]
        · rw [if_neg hc]
      · split
        · rename_i heq
          subst heq
          rw [getM_cons, getM_cons, getM_cons, if_pos rfl]
          by_cases hc : b = c
          · rw [if_pos hc, if_pos hc.symm]
          · rw [if_neg hc, if_neg (Ne.symm hc), if_neg hc]
        · rename_i h1 h2 h3
          have hnone : getM ((b, m) :: t) a = 0 := getM_none fun p hp => by
            rcases List.mem_cons.1 hp with rfl | hp
            · exact h3
            · have := r.1 p hp
              simp only at this; omega
          rw [getM_cons, hnone]
          have h4 : satU 0 n = n := by unfold satU; omega
          rw [h4]
          by_cases hc : a = c
          · rw [if_pos hc, if_pos hc.symm]
          · rw [if_neg hc, if_neg (Ne.symm hc)]
theorem putR_addB {f : Int} {L : List (Int × Nat)} (hL : Canon f L) {a : Int} (ha : (boundsB f a).isSome = true) {n : Nat} (hn : n ≤ maxU) : putR a n L = addB L (a, n) := by
  have hc := hL.addB (b := (a, n)) ha
  refine rising_ext (rising_putR hL.rising) hc.rising (nonzero_putR fun p hp => (hL.bins p hp).1) (fun p hp => (hc.bins p hp).1) fun c => ?_
  rw [getM_putR hn c hL.rising hL.fit, getM_addB]

theorem radd_no (f x n : Int) (v : Value) (L : List (Int × Nat)) (w : World) (hL : BinsAt w.heap.size w v L) (h : rightL f L = false) :
    Calls Try.prog 16 #[HistV f v, .int .u64 x, .int .u64 n] w fun e w' => e = histRes 0 (.slice none 0 0) 90 ∧ Below w.heap.size w w' := by
  have hR : ∀ W, Below w.heap.size w W → Calls Try.prog 20 #[HistV f v] W fun e w' => e = .returned (.bool false) ∧ Below W.heap.size W w' := fun W hb => h ▸ rright_any f v L W (hL.at_ hb)
  go_enter Try.func16, Try.ntmps16
  go_wp2_with fail
  with_reducible refine Calls.mono (Calls.gr0 (hR _ (by repeat (first | exact Below.refl _ _ | assumption | (refine Below.setCell ?_ (by (first | omega | (simp; done) | (simp; omega) | (simp at *; omega))) _) | (refine Below.alloc ?_ (by (first | omega | (simp; done) | (simp; omega) | (simp at *; omega))) _) | (refine Below.drew ?_) | (refine Gr.into _ ?_ (by (first | omega | (simp; done) | (simp; omega) | (simp at *; omega)))))))) ?_
  rintro e w' ⟨rfl, g, rfl⟩
  have hgl := g.le
  try simp only [World.size_alloc] at hgl
  try simp only [World.size_setCell] at hgl
  go_wp2_with fail
  exact bodyPost_ret (v := .tuple #[HistV 0 (.slice none 0 0), .int .i64 90]) (by simp [results, Try.results16, go_sem]) rfl ⟨rfl, (by repeat (first | exact Below.refl _ _ | assumption | (refine Below.setCell ?_ (by (first | omega | (simp; done) | (simp; omega) | (simp at *; omega))) _) | (refine Below.alloc ?_ (by (first | omega | (simp; done) | (simp; omega) | (simp at *; omega))) _) | (refine Below.drew ?_) | (refine Gr.into _ ?_ (by (first | omega | (simp; done) | (simp; omega) | (simp at *; omega))))))⟩
theorem BinsAt.setMost {B : Nat} {w : World} {v : Value} {L : List (Int × Nat)} (h : BinsAt B w v L) (p : Addr) (u : Value) (hp : L ≠ [] → ∀ k, v.ownBlock = some k → p.block ≠ k) : BinsAt B (w.setCell p u) v L := by
  by_cases hne : L = []
  · subst hne
    obtain ⟨h1, h2, h3 | ⟨a, off, cap, h4, h5, hc, h6⟩⟩ := h
    · exact ⟨h1, h2, .inl h3⟩
    · exact ⟨h1, h2, .inr ⟨a, off, cap, h4, h5, hc, fun i hi => by simp at hi⟩⟩
  · exact h.setOther p u (hp hne)
theorem BinsAt.own {B : Nat} {w : World} {p : Option Addr} {n cap : Nat} {L : List (Int × Nat)} (h : BinsAt B w (.slice p n cap) L) : ∀ j, (Value.slice p n cap).ownBlock = some j → L ≠ [] → j < B := fun j hj hne => by
  obtain ⟨-, -, ⟨a, h1, h2⟩ | ⟨a, off, c, h1, h2, -, -⟩⟩ := h
  · exact absurd h2 hne
  · rw [h1] at hj
    simp [Value.ownBlock] at hj; omega
set_option maxRecDepth 100000 in
set_option maxHeartbeats 1000000 in
theorem radd_yes (f : Int) (x n : Nat) (v : Value) (L : List (Int × Nat)) (w : World) (hL : BinsAt w.heap.size w v L) (h : rightL f L = true) (hx : x < 18446744073709551616) (hn : n < 18446744073709551616) (hlen : L.length ≤ 1000000000000) :
    Calls Try.prog 16 #[HistV f v, .int .u64 x, .int .u64 n] w fun e w' => ∃ v', e = histRes f v' 0 ∧ BinsAt w'.heap.size w' v' (putR (bucketB f x : Nat) n L) ∧ Below w.heap.size w w' := by
  have hR : ∀ W, Below w.heap.size w W → Calls Try.prog 20 #[HistV f v] W fun e w' => e = .returned (.bool true) ∧ Below W.heap.size W w' := fun W hb => h ▸ rright_any f v L W (hL.at_ hb)
  have hkb := bucketB_bd f x hx
  have hbk := fun W => rbucket_any f x W hx
  have hput := fun W hb => rput_any v L (bucketB f x : Nat) n W (hL.at_ hb) ⟨by omega, by omega⟩ hn hlen
  generalize bucketB f x = p at *
  obtain ⟨vp, vcap, hve, -⟩ := hL.form
  subst hve
  go_enter Try.func16, Try.ntmps16
  go_wp2_with fail
  with_reducible refine Calls.mono (Calls.gr0 (hR _ (by repeat (first | exact Below.refl _ _ | assumption | (refine Below.setCell ?_ (by (first | omega | (simp; done) | (simp; omega) | (simp at *; omega))) _) | (refine Below.alloc ?_ (by (first | omega | (simp; done) | (simp; omega) | (simp at *; omega))) _) | (refine Below.drew ?_) | (refine Gr.into _ ?_ (by (first | omega | (simp; done) | (simp; omega) | (simp at *; omega)))))))) ?_
  rintro e w' ⟨rfl, g, rfl⟩
  have hgl := g.le
  try simp only [World.size_alloc] at hgl
  try simp only [World.size_setCell] at hgl
  go_wp2_with fail
  refine wp_named (fun V hV => ?_)
  have hBV : Below w.heap.size w V := by rw [hV]; exact (by repeat (first | exact Below.refl _ _ | assumption | (refine Below.setCell ?_ (by (first | omega | (simp; done) | (simp; omega) | (simp at *; omega))) _) | (refine Below.alloc ?_ (by (first | omega | (simp; done) | (simp; omega) | (simp at *; omega))) _) | (refine Below.drew ?_) | (refine Gr.into _ ?_ (by (first | omega | (simp; done) | (simp; omega) | (simp at *; omega))))))
  have x0 : RowAt V (w.heap.size) 25 [.int .i64 f, .slice vp L.length vcap] := by rw [hV]; exact (by repeat (first | assumption | exact RowAt.new_at _ _ _ _ (by (first | omega | (simp; done) | (simp; omega) | (simp at *; omega))) | (refine RowAt.alloc ?_ _) | (refine RowAt.gr ?_ _) | (refine RowAt.setOther ?_ _ _ (by (first | omega | (simp; done) | (simp; omega) | (simp at *; omega)))) | (refine RowAt.drew ?_)))
  have r : RowAt V (w.heap.size + 1) 25 [.int .i64 0, .slice none 0 0] := by rw [hV]; exact (by repeat (first | assumption | exact RowAt.new_at _ _ _ _ (by (first | omega | (simp; done) | (simp; omega) | (simp at *; omega))) | (refine RowAt.alloc ?_ _) | (refine RowAt.gr ?_ _) | (refine RowAt.setOther ?_ _ _ (by (first | omega | (simp; done) | (simp; omega) | (simp at *; omega)))) | (refine RowAt.drew ?_)))
  clear hV
  obtain ⟨x0c0, x0c1, x0f0, x0f1, x0l⟩ := x0.two
  obtain ⟨rc0, rc1, rf0, rf1, rl⟩ := r.two
  clear hgl g
  have hVs := hBV.size
  refine wp_region_gr_free 7 6 [11, 12] (by kernel_rfl) (by kernel_rfl) ?_
  simp only [List.take_succ_cons, List.take_zero]
  repeat (go_big_quiet_step (first | fail))
  refine wpQuiet_nil ?_
  intro g
  have hgl := g.le
  refine wpAnyC_pureL 8 (by kernel_rfl) ?_
  simp only [List.drop_succ_cons, List.drop_zero, List.take_succ_cons, List.take_zero]
  go_big_quiet_step (first | fail)
  refine wpQuiet_nil ?_
  refine wpAnyC_one 7 rfl rfl (by kernel_rfl) (fun K hK => ?_)
  go_wp2_with fail
  refine Calls.mono (hbk _) ?_
  rintro e W2 ⟨rfl, hb2⟩
  have hB2 : Below V.heap.size V W2 := g.below.trans (hb2.mono hgl)
  have hs2 := hB2.size
  go_wp2_with fail
  refine hK _ _ (.inr (Gr.of hB2)) ?_
  refine wpAnyC_one 9 rfl rfl (by kernel_rfl) (fun K hK => ?_)
  go_wp2_with fail
  refine Calls.mono (hput _ (hBV.trans (hB2.mono hVs))) ?_
  rintro e W3 ⟨v', rfl, hv', hb3, hor⟩
  have hB3 : Below V.heap.size V W3 := hB2.trans (hb3.mono hs2)
  obtain ⟨p3, q3, he3, -⟩ := hv'.form
  subst he3
  have r3 := r.below hB3 rl
  obtain ⟨r3c0, r3c1, r3f0, r3f1, r3l⟩ := r3.two
  go_wp2_with fail
  refine hK _ _ (.inr (Gr.of hB3)) ?_
  refine wpAnyC_pureL 10 (by kernel_rfl) ?_
  simp only [List.drop_succ_cons, List.drop_zero, List.take_succ_cons, List.take_zero]
  go_big_quiet_step (first | fail)
  refine wpQuiet_nil ?_
  refine wpAnyC_one 11 rfl rfl (by kernel_rfl) (fun K hK => ?_)
  go_wp2
  refine hK _ _ (.inl rfl) ?_
  refine wpAnyC_one 12 rfl rfl (by kernel_rfl) (fun K hK => ?_)
  go_wp2
  refine hK _ _ (.inl rfl) ?_
  refine wpAnyC_end (by kernel_rfl) ?_
  go_wp2
  have hob : putR (p : Nat) n L ≠ [] → ∀ j, (Value.slice p3 (putR (p : Nat) n L).length q3).ownBlock = some j → w.heap.size + 1 ≠ j := fun hne j hj => by
    rcases hor with he | he
    · have hlen2 : (putR (p : Nat) n L).length = L.length := by simp at he; exact he.2.1
      have hL0 : L ≠ [] := by
        rintro rfl
        simp at hlen2
        exact hne hlen2
      rw [he] at hj
      have := hL.own j hj hL0
      omega
    · have := he j hj
      omega
  refine bodyPost_ret (v := .tuple #[HistV f (.slice p3 (putR (p : Nat) n L).length q3), .int .i64 0]) (by simp [results, Try.results16, go_sem, r3c0, r3c1, r3l]) rfl ?_
  refine ⟨_, rfl, ((hv'.setMost _ _ hob).setMost _ _ hob).mono (by simp), ?_⟩
  have hB4 : Below w.heap.size w W3 := hBV.trans (hB3.mono hVs)
  exact (hB4.setCell (p := ⟨w.heap.size + 1, 0, none⟩) (by show _ ≤ w.heap.size + 1; omega) _).setCell (p := ⟨w.heap.size + 1, 1, none⟩) (by show _ ≤ w.heap.size + 1; omega) _
end Go.Proofs.Ytnoemopaplopdaa
