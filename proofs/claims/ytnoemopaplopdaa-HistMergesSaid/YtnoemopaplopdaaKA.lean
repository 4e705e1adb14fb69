/- The references' Lower. -/
import Derived.Test.YtnoemopaplopdaaK7
import Derived.Test.YtnoemopaplopdaaHV
namespace Go.Proofs.Ytnoemopaplopdaa
open Go.RowKit Go.Maps

theorem boundsN_lo {f at_ lo hi : Nat} (hf : f ≤ 3) (ha : at_ ≤ 64 * 2 ^ f) (h : boundsN f at_ = some (lo, hi)) : bucketN f lo = at_ ∧ lo < 2 ^ 64 := by
  unfold boundsN at h
  split at h
  · rename_i h0
    obtain ⟨rfl, rfl⟩ : 0 = lo ∧ 0 = hi := by simpa using h
    subst h0
    exact ⟨by simp [bucketN], by omega⟩
  · rename_i h0
    split at h
    · rename_i hq
      split at h
      · rename_i hb
        have h1 : (2 ^ f + (at_ - 1) % 2 ^ f) / 2 ^ (f - (at_ - 1) / 2 ^ f) = lo := by simp at h; exact h.1
        rw [h1] at hb
        refine ⟨hb, ?_⟩
        rw [← h1]
        have h3 : (at_ - 1) % 2 ^ f < 2 ^ f := Nat.mod_lt _ (Nat.two_pow_pos _)
        have h4 : 2 ^ f ≤ 8 := by rcases four hf with rfl | rfl | rfl | rfl <;> decide
        exact Nat.lt_of_le_of_lt (Nat.div_le_self _ _) (by omega)
      · cases h
    · rename_i hq
      have h1 : (2 ^ f + (at_ - 1) % 2 ^ f) * 2 ^ ((at_ - 1) / 2 ^ f - f) = lo := by simp at h; exact h.1
      have hda := Nat.div_add_mod (at_ - 1) (2 ^ f)
      have h3 : (at_ - 1) % 2 ^ f < 2 ^ f := Nat.mod_lt _ (Nat.two_pow_pos _)
      have hq64 : (at_ - 1) / 2 ^ f < 64 := by rw [Nat.div_lt_iff_lt_mul (Nat.two_pow_pos _)]; omega
      generalize (at_ - 1) / 2 ^ f = q at *
      generalize (at_ - 1) % 2 ^ f = r at *
      have hpf := Nat.two_pow_pos f
      have e1 : 2 ^ f * 2 ^ (q - f) = 2 ^ q := by rw [← Nat.pow_add]; congr 1; omega
      have hpt := Nat.two_pow_pos (q - f)
      have hge : 2 ^ q ≤ lo := by rw [← h1, ← e1]; exact Nat.mul_le_mul_right _ (by omega)
      have hlt : lo < 2 ^ (q + 1) := by
        rw [← h1, Nat.pow_succ, ← e1, Nat.mul_right_comm]
        exact Nat.mul_lt_mul_of_pos_right (by omega) hpt
      have h64 : 2 ^ (q + 1) ≤ 2 ^ 64 := Nat.pow_le_pow_right (by omega) (by omega)
      have hlo : lo < 2 ^ 64 := by omega
      have hp1 := Nat.two_pow_pos q
      refine ⟨?_, hlo⟩
      have htop : top lo = q := top_eq hlo hge hlt
      have hlead : lead f lo = 2 ^ f + r := by
        rw [lead_high (by omega), htop, ← h1, Nat.mul_div_cancel _ hpt]
      rw [bucketN_pos (by omega) hlo, htop, hlead]
      rw [Nat.mul_comm] at hda
      omega
def lowI (f : Int) (b : Int × Nat) : Int × Nat := ((bucketB (f - 1) (bLo (boundsB f b.1)) : Nat), b.2)
theorem lowI_eq {f : Nat} (h1 : 1 ≤ f) (hf : f ≤ 3) {b : Int × Nat} (h : (boundsB f b.1).isSome = true) : lowI f b = lowB b ∧ bLo (boundsB f b.1) < 2 ^ 64 := by
  obtain ⟨-, -, h0, h64, -⟩ := boundsB_at h
  obtain ⟨a, ha⟩ := Int.eq_ofNat_of_zero_le h0
  obtain ⟨b1, b2⟩ := b
  simp only at ha h h64
  subst ha
  have h64' : a ≤ 64 * 2 ^ f := by rw [Int.toNat_natCast] at h64; exact_mod_cast h64
  have e : boundsB f a = boundsN f a := by
    unfold boundsB
    rw [if_pos (by simp [fineB]; exact ⟨by omega, by exact_mod_cast h64'⟩), Int.toNat_natCast, Int.toNat_natCast]
  unfold lowI lowB
  simp only
  rw [e] at h ⊢
  cases hb : boundsN f a with
  | none => rw [hb] at h; cases h
  | some x =>
    obtain ⟨lo, hi⟩ := x
    obtain ⟨k1, k2⟩ := boundsN_lo hf h64' hb
    refine ⟨?_, k2⟩
    have e2 : bLo (some (lo, hi)) = lo := rfl
    have e3 : ((f : Int) - 1) = ((f - 1 : Nat) : Int) := by omega
    have hl := bucket_lower (f := f - 1) k2
    rw [show f - 1 + 1 = f by omega, k1] at hl
    rw [e2, e3, bucketB_fine (by omega), ← hl]
    simp
theorem low_right {f : Nat} (h1 : 1 ≤ f) (hf : f ≤ 3) {L : List (Int × Nat)} (h : rightL f L = true) (hF : FitM L) : putRs [] (L.map (lowI f)) = lowL L := by
  have hc := canon_right h hF
  have e : L.map (lowI f) = L.map lowB := List.map_congr_left fun b hb => (lowI_eq h1 hf (hc.bins b hb).2.2).1
  rw [e]
  refine putRs_addBs (f := ((f - 1 : Nat) : Int)) _ (Canon.nil (by simp [fineB]; omega)) fun b hb => ?_
  obtain ⟨c, hcm, rfl⟩ := List.mem_map.1 hb
  obtain ⟨k1, k2⟩ := lowI_eq h1 hf (hc.bins c hcm).2.2
  refine ⟨?_, (hc.bins c hcm).2.1⟩
  rw [← k1]
  unfold lowI
  simp only
  rw [show ((f : Int) - 1) = ((f - 1 : Nat) : Int) by omega, bucketB_fine (by omega)]
  exact bucketN_isSome (by omega) k2
theorem rlower_no1 (f : Int) (v : Value) (L : List (Int × Nat)) (w : World) (hL : BinsAt w.heap.size w v L) (h0 : rightL f L = false) :
    Calls Try.prog 31 #[HistV f v] w fun e w' => e = histRes 0 (.slice none 0 0) 90 ∧ Below w.heap.size w w' := by
  have hR : ∀ W, Below w.heap.size w W → Calls Try.prog 20 #[HistV f v] W fun e w' => e = .returned (.bool false) ∧ Below W.heap.size W w' := fun W hb => h0 ▸ rright_any f v L W (hL.at_ hb)
  go_enter Try.func31, Try.ntmps31
  go_wp2_with fail
  with_reducible refine Calls.mono (Calls.gr0 (hR _ (by repeat (first | exact Below.refl _ _ | assumption | (refine Below.setCell ?_ (by (first | omega | (simp; done) | (simp; omega) | (simp at *; omega))) _) | (refine Below.alloc ?_ (by (first | omega | (simp; done) | (simp; omega) | (simp at *; omega))) _) | (refine Below.drew ?_) | (refine Gr.into _ ?_ (by (first | omega | (simp; done) | (simp; omega) | (simp at *; omega)))))))) ?_
  rintro e w' ⟨rfl, g, rfl⟩
  have hgl := g.le
  try simp only [World.size_alloc] at hgl
  try simp only [World.size_setCell] at hgl
  go_wp2_with fail
  exact bodyPost_ret (v := .tuple #[HistV 0 (.slice none 0 0), .int .i64 90]) (by simp [results, Try.results31, go_sem]) rfl ⟨rfl, (by repeat (first | exact Below.refl _ _ | assumption | (refine Below.setCell ?_ (by (first | omega | (simp; done) | (simp; omega) | (simp at *; omega))) _) | (refine Below.alloc ?_ (by (first | omega | (simp; done) | (simp; omega) | (simp at *; omega))) _) | (refine Below.drew ?_) | (refine Gr.into _ ?_ (by (first | omega | (simp; done) | (simp; omega) | (simp at *; omega))))))⟩
theorem rlower_no2 (v : Value) (L : List (Int × Nat)) (w : World) (hL : BinsAt w.heap.size w v L) (h0 : rightL 0 L = true) :
    Calls Try.prog 31 #[HistV 0 v] w fun e w' => e = histRes 0 (.slice none 0 0) 90 ∧ Below w.heap.size w w' := by
  have hR : ∀ W, Below w.heap.size w W → Calls Try.prog 20 #[HistV 0 v] W fun e w' => e = .returned (.bool true) ∧ Below W.heap.size W w' := fun W hb => h0 ▸ rright_any 0 v L W (hL.at_ hb)
  go_enter Try.func31, Try.ntmps31
  go_wp2_with fail
  with_reducible refine Calls.mono (Calls.gr0 (hR _ (by repeat (first | exact Below.refl _ _ | assumption | (refine Below.setCell ?_ (by (first | omega | (simp; done) | (simp; omega) | (simp at *; omega))) _) | (refine Below.alloc ?_ (by (first | omega | (simp; done) | (simp; omega) | (simp at *; omega))) _) | (refine Below.drew ?_) | (refine Gr.into _ ?_ (by (first | omega | (simp; done) | (simp; omega) | (simp at *; omega)))))))) ?_
  rintro e w' ⟨rfl, g, rfl⟩
  have hgl := g.le
  try simp only [World.size_alloc] at hgl
  try simp only [World.size_setCell] at hgl
  go_wp2_with fail
  exact bodyPost_ret (v := .tuple #[HistV 0 (.slice none 0 0), .int .i64 90]) (by simp [results, Try.results31, go_sem]) rfl ⟨rfl, (by repeat (first | exact Below.refl _ _ | assumption | (refine Below.setCell ?_ (by (first | omega | (simp; done) | (simp; omega) | (simp at *; omega))) _) | (refine Below.alloc ?_ (by (first | omega | (simp; done) | (simp; omega) | (simp at *; omega))) _) | (refine Below.drew ?_) | (refine Gr.into _ ?_ (by (first | omega | (simp; done) | (simp; omega) | (simp at *; omega))))))⟩
set_option maxRecDepth 100000 in
set_option maxHeartbeats 2000000 in
theorem rlower_yes (f : Nat) (v : Value) (L : List (Int × Nat)) (w : World) (hL : BinsAt w.heap.size w v L) (hf1 : 1 ≤ f) (hf3 : f ≤ 3) (h : rightL f L = true) (hlen : L.length ≤ 1000000) :
    Calls Try.prog 31 #[HistV f v] w fun e w' => ∃ v', e = histRes ((f : Int) - 1) v' 0 ∧ BinsAt w'.heap.size w' v' (putRs [] (L.map (lowI f))) ∧ Below w.heap.size w w' := by
  have hR : ∀ W, Below w.heap.size w W → Calls Try.prog 20 #[HistV f v] W fun e w' => e = .returned (.bool true) ∧ Below W.heap.size W w' := fun W hb => h ▸ rright_any f v L W (hL.at_ hb)
  have h1 := hL.1
  have hF : FitM L := fun b hb => by have := (h1 b hb).2.2; unfold maxU; omega
  have hcan := canon_right h hF
  have hfi : ((f : Int) == 0) = false := by simp; omega
  have hfw : wrap64 ((f : Int) - 1) = (f : Int) - 1 := by unfold wrap64; omega
  obtain ⟨p, cp, rfl, -, hp⟩ := hL.form
  go_enter Try.func31, Try.ntmps31
  go_wp2_with fail
  with_reducible refine Calls.mono (Calls.gr0 (hR _ (by repeat (first | exact Below.refl _ _ | assumption | (refine Below.setCell ?_ (by (first | omega | (simp; done) | (simp; omega) | (simp at *; omega))) _) | (refine Below.alloc ?_ (by (first | omega | (simp; done) | (simp; omega) | (simp at *; omega))) _) | (refine Below.drew ?_) | (refine Gr.into _ ?_ (by (first | omega | (simp; done) | (simp; omega) | (simp at *; omega)))))))) ?_
  rintro e w' ⟨rfl, g, rfl⟩
  have hgl := g.le
  try simp only [World.size_alloc] at hgl
  try simp only [World.size_setCell] at hgl
  go_wp2_with fail
  refine wp_named (fun V hV => ?_)
  have hBV : Below w.heap.size w V := by rw [hV]; exact (by repeat (first | exact Below.refl _ _ | assumption | (refine Below.setCell ?_ (by (first | omega | (simp; done) | (simp; omega) | (simp at *; omega))) _) | (refine Below.alloc ?_ (by (first | omega | (simp; done) | (simp; omega) | (simp at *; omega))) _) | (refine Below.drew ?_) | (refine Gr.into _ ?_ (by (first | omega | (simp; done) | (simp; omega) | (simp at *; omega))))))
  have x : RowAt V (w.heap.size) 25 [.int .i64 f, .slice p L.length cp] := by rw [hV]; exact (by repeat (first | assumption | exact RowAt.new_at _ _ _ _ (by (first | omega | (simp; done) | (simp; omega) | (simp at *; omega))) | (refine RowAt.alloc ?_ _) | (refine RowAt.gr ?_ _) | (refine RowAt.setOther ?_ _ _ (by (first | omega | (simp; done) | (simp; omega) | (simp at *; omega)))) | (refine RowAt.drew ?_)))
  have r : RowAt V (w.heap.size + 1) 25 [.int .i64 0, .slice none 0 0] := by rw [hV]; exact (by repeat (first | assumption | exact RowAt.new_at _ _ _ _ (by (first | omega | (simp; done) | (simp; omega) | (simp at *; omega))) | (refine RowAt.alloc ?_ _) | (refine RowAt.gr ?_ _) | (refine RowAt.setOther ?_ _ _ (by (first | omega | (simp; done) | (simp; omega) | (simp at *; omega)))) | (refine RowAt.drew ?_)))
  clear hV
  obtain ⟨xc0, xc1, xf0, xf1, xl⟩ := x.two
  obtain ⟨rc0, rc1, rf0, rf1, rl⟩ := r.two
  clear hgl g
  have hVs := hBV.size
  go_loopw [4, 5] (fun lv i wr => ∃ k : Nat, k ≤ L.length ∧ i = .int .i64 k ∧ BinsAt wr.heap.size wr lv (putRs [] ((L.take k).map (lowI f))) ∧ (putRs [] ((L.take k).map (lowI f)) ≠ [] → ∀ j, lv.ownBlock = some j → w.heap.size + 1 ≠ j) ∧ Below V.heap.size V wr)
    (fun _ i _ => L.length - (intOf i).toNat)
  case atStart => exact ⟨0, by omega, rfl, by simpa [putRs] using binsNil _ _, fun hne j hj => by simp [Value.ownBlock] at hj, Below.refl _ _⟩
  case round =>
    obtain ⟨k, hk, rfl, hl, hown, hBv⟩ := hrel
    have hB : Below w.heap.size w wr := hBV.trans (hBv.mono hVs)
    have x2 := x.below hBv xl
    have r2 := r.below hBv rl
    obtain ⟨x2c0, x2c1, -, -, x2l⟩ := x2.two
    obtain ⟨r2c0, r2c1, r2f0, r2f1, r2l⟩ := r2.two
    have hBs := hBv.size
    obtain ⟨lp, lc, hle, -⟩ := hl.form
    subst hle
    by_cases hlk : k < L.length
    · have hki : (k : Int) < L.length := by omega
      obtain ⟨a, off, rfl, ha, hc⟩ := hp (by rintro rfl; simp at hlk)
      obtain ⟨hc0, hc1⟩ := hc k hlk
      rw [← hB.cell (p := ⟨a, off + k * 2, none⟩) ha] at hc0
      rw [← hB.cell (p := ⟨a, off + k * 2 + 1, none⟩) ha] at hc1
      have hal : a < wr.heap.size := by have := hB.size; omega
      have hin := h1 _ (List.getElem_mem hlk)
      have hst : putRs [] ((L.take (k + 1)).map (lowI f)) = putR (bucketB ((f : Int) - 1) (bLo (boundsB f L[k].1)) : Nat) L[k].2 (putRs [] ((L.take k).map (lowI f))) := by
        unfold putRs
        rw [List.take_succ_eq_append_getElem hlk, List.map_append, List.foldl_append]; rfl
      have hll := putRs_length ((L.take k).map (lowI f)) []
      have htl : ((L.take k).map (lowI f)).length = k := by simp; omega
      have hlo := (lowI_eq hf1 hf3 (hcan.bins _ (List.getElem_mem hlk)).2.2).2
      have hok := (hcan.bins _ (List.getElem_mem hlk)).2.2
      have hbc := fun W => rbounds_any f L[k].1 W
      rw [bndRes_eq] at hbc
      have hbkb := bucketB_bd ((f : Int) - 1) (bLo (boundsB f L[k].1)) hlo
      have hput := fun W hb => rput_any _ (putRs [] ((L.take k).map (lowI f))) (bucketB ((f : Int) - 1) (bLo (boundsB f L[k].1)) : Nat) L[k].2 W (hl.at_ hb) ⟨by omega, by omega⟩ hin.2.2 (by simp only [List.length_nil, Nat.zero_add] at hll; omega)
      rw [← hst] at hput
      have hbk := fun W => rbucket_any ((f : Int) - 1) (bLo (boundsB f L[k].1)) W (by omega)
      generalize bucketB ((f : Int) - 1) (bLo (boundsB f L[k].1)) = bk at *
      generalize bLo (boundsB f L[k].1) = lo at *
      generalize bHi (boundsB f L[k].1) = hi at *
      generalize (boundsB f L[k].1).isSome = ok at *
      rcases hLk : L[k] with ⟨b, m⟩
      rw [hLk] at hc0 hc1 hput hbc
      have HP := Lib.hid hput
      clear hput hc hp hst hLk hcan hF hll htl
      generalize hML : putRs [] ((L.take k).map (lowI f)) = M at *
      generalize hml : M.length = ml at *
      have HM := Lib.hid hml
      clear hml hok
      go_wp2
      refine wp_region_gr (by kernel_rfl) (by kernel_rfl) ?_
      repeat (go_big_quiet_step (first | (go_at_call 14; exact Calls.gr (hbc _))))
      refine wpQuiet_nil ?_
      intro g
      have hgl := g.le
      go_wp2
      refine wp_region_gr_tail' 12 (by kernel_rfl) (by kernel_rfl) ?_
      simp only [List.take_succ_cons, List.take_zero, List.drop_succ_cons, List.drop_zero]
      repeat (go_big_quiet_step (first | (go_at_call 18; exact Calls.gr (hbk _))))
      refine wpQuiet_nil ?_
      intro g2
      have hgl2 := g2.le
      go_wp2_with fail
      refine Calls.mono (HP.out _ g2.below) ?_
      rintro e w2 ⟨v', rfl, hv', hb, hor⟩
      have hb2 : Below wr.heap.size wr w2 := g2.below.trans (hb.mono hgl2)
      go_wp2_with fail
      go_roundw
      case rel =>
        refine ⟨k + 1, by omega, by go_num, hv', fun hne j hj => ?_, hBv.trans (hb2.mono hBs)⟩
        rcases hor with rfl | hor
        · obtain ⟨p', c', he', -⟩ := hv'.form
          have hlen' : ml = (putRs [] ((L.take (k + 1)).map (lowI f))).length := (Value.slice.inj he').2.1
          have hM0 : M ≠ [] := by
            rintro rfl
            have := HM.out
            simp at this
            exact hne (List.eq_nil_of_length_eq_zero (by omega))
          exact hown hM0 j hj
        · have := hor j hj
          omega
      case measure => simp [intOf]; omega
    · obtain rfl : k = L.length := by omega
      rw [List.take_length] at hl hown
      go_wp2
      rw [List.take_length]
      refine bodyPost_ret (v := .tuple #[HistV ((f : Int) - 1) (.slice lp (putRs [] (L.map (lowI f))).length lc), .int .i64 0]) (by simp [results, Try.results31, go_sem, r2c0, r2c1, r2l]) rfl ?_
      refine ⟨_, rfl, ((hl.setMost _ _ hown).setMost _ _ hown).mono (by simp), ?_⟩
      exact (hB.setCell (p := ⟨w.heap.size + 1, 0, none⟩) (by show _ ≤ w.heap.size + 1; omega) _).setCell (p := ⟨w.heap.size + 1, 1, none⟩) (by show _ ≤ w.heap.size + 1; omega) _
end Go.Proofs.Ytnoemopaplopdaa
