/- Plain laws on histograms of values. -/
import Derived.Test.YtnoemopaplopdaaJ2
namespace Go.Proofs.Ytnoemopaplopdaa
open Go.RowKit Go.Maps

theorem sumP_map (P : Int → Bool) (g : Int × Nat → Int × Nat) (hg : ∀ b, (g b).2 = b.2) : ∀ L : List (Int × Nat), sumP P (L.map g) = L.foldr (fun b s => (if P (g b).1 then b.2 else 0) + s) 0
  | [] => rfl
  | b :: L => by simp only [List.map_cons, sumP, List.foldr_cons, sumP_map P g hg L, hg]
theorem sumP_fold (P : Int → Bool) : ∀ L : List (Int × Nat), sumP P L = L.foldr (fun b s => (if P b.1 then b.2 else 0) + s) 0
  | [] => rfl
  | b :: L => by simp only [sumP, List.foldr_cons, sumP_fold P L]
theorem min_ofL (P : Int → Bool) (f : Nat) (I : List (Nat × Nat)) : min (sumP P (ofL f I)) maxU = min (sumP P (I.map (itemB f))) maxU := by
  have := min_addBs P (I.map (itemB f)) (M := []) List.Pairwise.nil
  unfold ofL
  rw [this]
  simp [sumP]
theorem getM_ofL (a : Int) (f : Nat) (I : List (Nat × Nat)) : getM (ofL f I) a = min (sumP (fun x => decide (x = a)) (I.map (itemB f))) maxU := by
  unfold ofL
  rw [getM_addBs a _ List.Pairwise.nil (fun p hp => by cases hp)]
  have e : getM [] a = 0 := rfl
  rw [e]; simp
theorem bucketB_fine {f : Nat} (hf : f ≤ 3) (v : Nat) : bucketB f v = bucketN f v := by unfold bucketB; rw [if_pos (by simp [fineB]; omega), Int.toNat_natCast]
theorem rank_ofL {f : Nat} (hf : f ≤ 3) {I : List (Nat × Nat)} (h : ∀ x ∈ I, x.1 < 2 ^ 64) (v : Nat) : rankH f (ofL f I) v = min (sumP (fun a => decide (a ≤ (bucketN f v : Int))) (I.map (itemB f))) maxU := by
  rw [rank_sum (ofL_canon hf h).right, bucketB_fine hf, min_ofL]
theorem total_ofL {f : Nat} (hf : f ≤ 3) {I : List (Nat × Nat)} (h : ∀ x ∈ I, x.1 < 2 ^ 64) : totalH f (ofL f I) = min (sumP (fun _ => true) (I.map (itemB f))) maxU := by
  unfold totalH
  rw [rank_ofL hf h]
  congr 1
  refine sumP_all fun b hb => ?_
  obtain ⟨x, hx, rfl⟩ := List.mem_map.1 hb
  have h1 := h x hx
  have := bucketN_mono (f := f) (u := x.1) (v := 18446744073709551615) (by omega) (by omega)
  exact decide_eq_true (p := ((bucketN f x.1 : Nat) : Int) ≤ (bucketN f 18446744073709551615 : Nat)) (by omega)
/-- Ranks of what is merged with itself or with another. -/
theorem rank_merge {f : Nat} {L K : List (Int × Nat)} (hL : Canon f L) (hK : Canon f K) (v : Nat) : rankH f (K.foldl addB (L.foldl addB [])) v = satU (rankH f L v) (rankH f K v) := by
  have hM : Canon f (K.foldl addB L) := hL.addBs fun b hb => (hK.bins b hb).2.2
  rw [hL.norm, rank_sum hM.right, rank_sum hL.right, rank_sum hK.right, min_addBs _ _ hL.rising]
  unfold satU
  omega
theorem rank_mono {f : Nat} (hf : f ≤ 3) {L : List (Int × Nat)} (hL : Canon f L) {u v : Nat} (h : u ≤ v) (hv : v < 2 ^ 64) : rankH f L u ≤ rankH f L v := by
  rw [rank_sum hL.right, rank_sum hL.right, bucketB_fine hf, bucketB_fine hf]
  have := bucketN_mono (f := f) h hv
  have := sumP_le (P := fun a => decide (a ≤ (bucketN f u : Int))) (Q := fun a => decide (a ≤ (bucketN f v : Int))) (L := L) fun b _ hb => by simp only [decide_eq_true_eq] at hb ⊢; omega
  omega
theorem mem_addB {M : List (Int × Nat)} {b p : Int × Nat} (h : p ∈ addB M b) : p.1 = b.1 ∨ p ∈ M := by
  unfold addB at h
  split at h
  · exact .inr (List.mem_filter.1 h).1
  · rcases mem_insM.1 h with rfl | h
    · exact .inl rfl
    · exact .inr (List.mem_filter.1 h).1
theorem one_key {K : Int} : ∀ {M : List (Int × Nat)}, Rising M → (∀ p ∈ M, p.1 = K) → M.length ≤ 1
  | [], _, _ => by simp
  | [_], _, _ => by simp
  | p :: q :: M, hR, h => by
    have h1 := (List.pairwise_cons.1 hR).1 q (by simp)
    have h2 := h p (by simp)
    have h3 := h q (by simp)
    omega
theorem full_length (f v n m : Nat) : (ofL f [(v, n), (v, m)]).length ≤ 1 := by
  refine one_key (K := (bucketN f v : Int)) (Rising.addBs _ List.Pairwise.nil) fun p hp => ?_
  simp only [ofL, List.map_cons, List.map_nil, List.foldl_cons, List.foldl_nil, itemB] at hp
  rcases mem_addB hp with h | h
  · exact h
  · rcases mem_addB h with h | h
    · exact h
    · cases h
theorem full_rank {f : Nat} (hf : f ≤ 3) {v n m : Nat} (hv : v < 2 ^ 64) : rankH f (ofL f [(v, n), (v, m)]) v = satU n m := by
  rw [rank_ofL hf (by intro x hx; simp at hx; rcases hx with rfl | rfl <;> exact hv)]
  simp only [List.map_cons, List.map_nil, itemB, sumP, Int.le_refl, decide_true, if_true]
  unfold satU; omega
theorem full_total {f : Nat} (hf : f ≤ 3) {v n m : Nat} (hv : v < 2 ^ 64) : totalH f (ofL f [(v, n), (v, m)]) = satU n m := by
  rw [total_ofL hf (by intro x hx; simp at hx; rcases hx with rfl | rfl <;> exact hv)]
  simp only [List.map_cons, List.map_nil, itemB, sumP, if_true]
  unfold satU; omega

/-! What is merged is of both's values; in whatever order. -/
theorem getM_merge (a : Int) {f : Nat} {L K : List (Int × Nat)} (hL : Canon f L) (hK : Canon f K) : getM (K.foldl addB (L.foldl addB [])) a = min (getM L a + getM K a) maxU := by
  rw [hL.norm, getM_addBs a K hL.rising hL.fit, getM_sum a hK.rising]
theorem canon_merge {f : Nat} {L K : List (Int × Nat)} (hL : Canon f L) (hK : Canon f K) : Canon f (K.foldl addB (L.foldl addB [])) := by
  rw [hL.norm]; exact hL.addBs fun b hb => (hK.bins b hb).2.2
theorem merge_ofL {f : Nat} (hf : f ≤ 3) {I J : List (Nat × Nat)} (hI : ∀ x ∈ I, x.1 < 2 ^ 64) (hJ : ∀ x ∈ J, x.1 < 2 ^ 64) : (ofL f J).foldl addB ((ofL f I).foldl addB []) = ofL f (I ++ J) := by
  have h1 := ofL_canon (f := f) hf hI
  have h2 := ofL_canon (f := f) hf hJ
  have h3 := ofL_canon (f := f) hf (I := I ++ J) fun x hx => (List.mem_append.1 hx).elim (hI x) (hJ x)
  refine Canon.ext (canon_merge h1 h2) h3 fun a => ?_
  rw [getM_merge a h1 h2, getM_ofL, getM_ofL, getM_ofL, List.map_append, sumP_append]
  omega
theorem sumP_perm (P : Int → Bool) {L K : List (Int × Nat)} (h : L.Perm K) : sumP P L = sumP P K := by
  induction h with
  | nil => rfl
  | cons x _ ih => simp only [sumP, ih]
  | swap x y l => simp only [sumP]; omega
  | trans _ _ ih1 ih2 => rw [ih1, ih2]
theorem ofL_perm {f : Nat} (hf : f ≤ 3) {I J : List (Nat × Nat)} (hI : ∀ x ∈ I, x.1 < 2 ^ 64) (h : I.Perm J) : ofL f I = ofL f J := by
  refine Canon.ext (ofL_canon (f := f) hf hI) (ofL_canon (f := f) hf fun x hx => hI x (h.mem_iff.2 hx)) fun a => ?_
  rw [getM_ofL, getM_ofL, sumP_perm _ (h.map _)]

/-! What is lowered. -/
theorem bucket_lower {f v : Nat} (hv : v < 2 ^ 64) : (bucketN (f + 1) v + 1) / 2 = bucketN f v := by
  by_cases h0 : v = 0
  · subst h0; simp [bucketN]
  · rw [bucketN_pos h0 hv, bucketN_pos h0 hv]
    have l1 := lead_bd (f := f) h0 hv
    have l2 := lead_bd (f := f + 1) h0 hv
    have e : lead f v = lead (f + 1) v / 2 := by
      unfold lead
      rw [Nat.div_div_eq_div_mul, Nat.pow_succ, ← Nat.mul_assoc, Nat.mul_div_mul_right _ _ (by omega)]
    rw [Nat.pow_succ] at l1 l2 ⊢
    rw [Nat.pow_succ] at l2
    rw [e] at l1 ⊢
    generalize 2 ^ f = p at *
    rw [show top v * (p * 2) = (top v * p) * 2 by rw [Nat.mul_assoc]]
    generalize top v * p = q
    omega
theorem nonzero_addBs (L : List (Int × Nat)) : ∀ {M : List (Int × Nat)}, (∀ p ∈ M, p.2 ≠ 0) → ∀ p ∈ L.foldl addB M, p.2 ≠ 0 := by
  induction L with
  | nil => intro M h; exact h
  | cons b L ih =>
    intro M h
    refine ih fun p hp => ?_
    unfold addB at hp
    split at hp
    · exact h p (List.mem_filter.1 hp).1
    · rename_i h0
      rcases mem_insM.1 hp with rfl | hp
      · exact h0
      · exact h p (List.mem_filter.1 hp).1
theorem low_ofL {f : Nat} (hf : f + 1 ≤ 3) {I : List (Nat × Nat)} (hI : ∀ x ∈ I, x.1 < 2 ^ 64) : lowL (ofL (f + 1) I) = ofL f I := by
  have h1 := ofL_canon (f := f + 1) hf hI
  have h2 := ofL_canon (f := f) (by omega) hI
  have hm : ∀ (P : Int → Bool), min (sumP P ((ofL (f + 1) I).map lowB)) maxU = min (sumP P (I.map (itemB f))) maxU := fun P => by
    have e1 : sumP P ((ofL (f + 1) I).map lowB) = sumP (fun x => P ((x + 1) / 2)) (ofL (f + 1) I) := by
      rw [sumP_map P lowB (fun b => rfl), sumP_fold]; rfl
    have e2 : sumP P (I.map (itemB f)) = sumP (fun x => P ((x + 1) / 2)) (I.map (itemB (f + 1))) := by
      clear h1 h2 e1
      induction I with
      | nil => rfl
      | cons x I ih =>
        simp only [List.map_cons, sumP, itemB]
        rw [ih (fun y hy => hI y (by simp [hy]))]
        have := bucket_lower (f := f) (hI x (by simp))
        have e : ((bucketN (f + 1) x.1 : Nat) : Int) + 1 = ((bucketN (f + 1) x.1 + 1 : Nat) : Int) := by simp
        rw [e, show (((bucketN (f + 1) x.1 + 1 : Nat) : Int)) / 2 = (((bucketN (f + 1) x.1 + 1) / 2 : Nat) : Int) by simp, this]
    rw [e1, e2, min_ofL]
  refine rising_ext (Rising.addBs _ List.Pairwise.nil) h2.rising ?_ (fun p hp => (h2.bins p hp).1) fun a => ?_
  · intro p hp
    unfold lowL at hp
    exact nonzero_addBs _ (fun q hq => by cases hq) p hp
  · unfold lowL
    rw [getM_addBs a _ List.Pairwise.nil (fun p hp => by cases hp), getM_ofL, ← hm]
    have e : getM [] a = 0 := rfl
    rw [e]; simp
end Go.Proofs.Ytnoemopaplopdaa
