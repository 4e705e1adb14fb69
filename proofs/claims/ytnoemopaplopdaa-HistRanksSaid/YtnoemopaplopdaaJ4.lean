/- Plain laws on ranks and places. -/
import Derived.Test.YtnoemopaplopdaaJ3
namespace Go.Proofs.Ytnoemopaplopdaa
open Go.RowKit Go.Maps

/-- The first bin whose sum goes beyond a place. -/
theorem selTo_spec (q : Nat) : ∀ (L : List (Int × Nat)) (acc : Nat), Rising L → acc ≤ q →
    (match selTo q (sumsFrom acc L) with
      | none => min (acc + sumP (fun _ => true) L) maxU ≤ q
      | some x => x.1 ∈ L ∧ q < min (acc + sumP (fun a => decide (a ≤ x.1.1)) L) maxU ∧ min (acc + sumP (fun a => decide (a < x.1.1)) L) maxU ≤ q)
  | [], acc, _, h => by simp [selTo, sumsFrom, sumP]; omega
  | (a, n) :: L, acc, hR, h => by
    have r := List.pairwise_cons.1 hR
    have hz : ∀ (P : Int → Bool), (∀ b ∈ L, P b.1 = false) → sumP P L = 0 := by
      intro P
      induction L with
      | nil => intro _; rfl
      | cons b L ih =>
        intro hP
        simp only [sumP]
        rw [hP b (by simp), ih (List.pairwise_cons.2 ⟨fun c hc => r.1 c (by simp [hc]), (List.pairwise_cons.1 r.2).2⟩) ⟨fun c hc => r.1 c (by simp [hc]), (List.pairwise_cons.1 r.2).2⟩ fun c hc => hP c (by simp [hc])]
        simp
    by_cases hs : q < satU acc n
    · have e : selTo q (sumsFrom acc ((a, n) :: L)) = some ((a, n), satU acc n) := by
        unfold selTo
        simp only [sumsFrom]
        rw [List.find?_cons_of_pos (by simpa using hs)]
      rw [e]
      simp only [sumP]
      rw [hz _ (fun b hb => decide_eq_false (by have := r.1 b hb; simp only at this; omega)), hz _ (fun b hb => decide_eq_false (by have := r.1 b hb; simp only at this; omega))]
      refine ⟨by simp, ?_, ?_⟩
      · simp only [Int.le_refl, decide_true, if_true]
        unfold satU at hs; omega
      · simp only [Int.lt_irrefl, decide_false, Bool.false_eq_true, if_false]
        omega
    · have ih := selTo_spec q L (satU acc n) r.2 (by omega)
      have e : selTo q (sumsFrom acc ((a, n) :: L)) = selTo q (sumsFrom (satU acc n) L) := by
        unfold selTo
        simp only [sumsFrom]
        rw [List.find?_cons_of_neg (by simpa using hs)]
      rw [e]
      cases hx : selTo q (sumsFrom (satU acc n) L) with
      | none =>
        rw [hx] at ih
        simp only [sumP, if_true] at ih ⊢
        unfold satU at ih hs; omega
      | some x =>
        rw [hx] at ih
        simp only at ih ⊢
        obtain ⟨i1, i2, i3⟩ := ih
        have hlt := r.1 _ i1
        simp only at hlt
        simp only [sumP]
        rw [if_pos (decide_eq_true (by omega)), if_pos (decide_eq_true (by omega))]
        refine ⟨by simp [i1], ?_, ?_⟩
        · unfold satU at i2 hs; omega
        · unfold satU at i3 hs; omega

def onesI (Z : List Nat) : List (Nat × Nat) := Z.map fun x => (x, 1)
theorem ones_lt {Z : List Nat} (h : ∀ z ∈ Z, z < 2 ^ 64) : ∀ x ∈ onesI Z, x.1 < 2 ^ 64 := fun x hx => by
  obtain ⟨z, hz, rfl⟩ := List.mem_map.1 hx
  exact h z hz
theorem sum_ones (f : Nat) (P : Int → Bool) : ∀ Z : List Nat, sumP P ((onesI Z).map (itemB f)) = Z.countP fun x => P (bucketN f x : Nat)
  | [] => rfl
  | x :: Z => by
    have := sum_ones f P Z
    unfold onesI at this ⊢
    simp only [List.map_cons, sumP, itemB, List.countP_cons]
    rw [this]
    omega
theorem count_le (P : Nat → Bool) (Z : List Nat) : Z.countP P ≤ Z.length := List.countP_le_length
theorem rank_ones {f : Nat} (hf : f ≤ 3) {Z : List Nat} (h : ∀ z ∈ Z, z < 2 ^ 64) (hl : Z.length ≤ 100) (v : Nat) : rankH f (ofL f (onesI Z)) v = Z.countP fun x => decide (bucketN f x ≤ bucketN f v) := by
  rw [rank_ofL hf (ones_lt h), sum_ones]
  have e : (fun x => decide (((bucketN f x : Nat) : Int) ≤ (bucketN f v : Nat))) = fun x => decide (bucketN f x ≤ bucketN f v) := by
    funext x; exact decide_eq_decide.2 (by omega)
  rw [e]
  have := count_le (fun x => decide (bucketN f x ≤ bucketN f v)) Z
  unfold maxU; omega
theorem total_ones {f : Nat} (hf : f ≤ 3) {Z : List Nat} (h : ∀ z ∈ Z, z < 2 ^ 64) (hl : Z.length ≤ 100) : totalH f (ofL f (onesI Z)) = Z.length := by
  rw [total_ofL hf (ones_lt h), sum_ones]
  have e : Z.countP (fun _ => true) = Z.length := by simp
  rw [e]
  unfold maxU; omega
/-- A value is in a bucket, or in a lesser one, just if it's no greater than its greatest value. -/
theorem bucket_le_iff {f v lo hi x : Nat} (hf : f ≤ 3) (hv : v < 2 ^ 64) (hx : x < 2 ^ 64) (hb : boundsN f (bucketN f v) = some (lo, hi)) : bucketN f x ≤ bucketN f v ↔ x ≤ hi := by
  obtain ⟨lo', hi', h1, h2, h3, h4, h5, h6, -⟩ := bounds_bucket (f := f) hv hf
  rw [hb] at h1
  obtain ⟨rfl, rfl⟩ : lo = lo' ∧ hi = hi' := by simpa using h1
  constructor
  · intro hle
    rcases Nat.lt_or_ge hi x with hlt | h
    · have h7 := bucketN_mono (f := f) (u := v) (v := x) (by omega) hx
      have h8 : bucketN f x = bucketN f v := by omega
      obtain ⟨lo2, hi2, k1, -, k3, -⟩ := bounds_bucket (f := f) hx hf
      rw [h8, hb] at k1
      obtain ⟨-, rfl⟩ : lo = lo2 ∧ hi = hi2 := by simpa using k1
      exact k3
    · exact h
  · intro hle
    rw [← h6]
    exact bucketN_mono hle h4
theorem high_ones {f v lo hi : Nat} (hf : f ≤ 3) {Z : List Nat} (h : ∀ z ∈ Z, z < 2 ^ 64) (hv : v < 2 ^ 64) (hb : boundsN f (bucketN f v) = some (lo, hi)) : Z.countP (fun x => decide (bucketN f x ≤ bucketN f v)) = Z.countP fun x => decide (x ≤ hi) :=
  List.countP_congr fun x hx => by simp only [decide_eq_true_eq]; exact bucket_le_iff hf hv (h x hx) hb
theorem low_ones {f v : Nat} {Z : List Nat} (hv : v < 2 ^ 64) : Z.countP (fun x => decide (x ≤ v)) ≤ Z.countP fun x => decide (bucketN f x ≤ bucketN f v) :=
  List.countP_mono_left fun x _ hx => by simp only [decide_eq_true_eq] at hx ⊢; exact bucketN_mono hx hv
theorem mem_ofL {f : Nat} {p : Int × Nat} : ∀ (L : List (Int × Nat)) {M : List (Int × Nat)}, p ∈ L.foldl addB M → (∃ b ∈ L, p.1 = b.1) ∨ p ∈ M
  | [], _, h => .inr h
  | b :: L, M, h => by
    rcases mem_ofL (f := f) L h with ⟨c, hc, h1⟩ | h1
    · exact .inl ⟨c, by simp [hc], h1⟩
    · rcases mem_addB h1 with h2 | h2
      · exact .inl ⟨b, by simp, h2⟩
      · exact .inr h2
/-- The bucket of a place. -/
theorem select_ones {f : Nat} (hf : f ≤ 3) {Z : List Nat} (h : ∀ z ∈ Z, z < 2 ^ 64) (hl : Z.length ≤ 100) (q : Nat) :
    (Z.length ≤ q ∧ selectB f (ofL f (onesI Z)) q = none) ∨
    (q < Z.length ∧ ∃ lo hi, selectB f (ofL f (onesI Z)) q = some (lo, hi) ∧ lo < 2 ^ 64 ∧ hi < 2 ^ 64 ∧ q < rankH f (ofL f (onesI Z)) hi ∧ (lo ≠ 0 → rankH f (ofL f (onesI Z)) (lo - 1) ≤ q)) := by
  have hc := ofL_canon (f := f) hf (ones_lt h)
  have hs := selTo_spec q (ofL f (onesI Z)) 0 hc.rising (by omega)
  have hsum : sumsL f (ofL f (onesI Z)) = sumsFrom 0 (ofL f (onesI Z)) := by unfold sumsL; rw [if_pos hc.right]
  have ht : min (sumP (fun _ => true) (ofL f (onesI Z))) maxU = Z.length := by
    rw [min_ofL, sum_ones]
    have e : Z.countP (fun _ => true) = Z.length := by simp
    rw [e]; unfold maxU; omega
  unfold selectB
  rw [hsum]
  cases hx : selTo q (sumsFrom 0 (ofL f (onesI Z))) with
  | none =>
    rw [hx] at hs
    simp only [Nat.zero_add] at hs
    exact .inl ⟨by omega, rfl⟩
  | some x =>
    rw [hx] at hs
    simp only [Nat.zero_add] at hs
    obtain ⟨i1, i2, i3⟩ := hs
    have hle := sumP_le (P := fun a => decide (a ≤ x.1.1)) (Q := fun _ => true) (L := ofL f (onesI Z)) fun _ _ _ => rfl
    obtain ⟨z, hz, hxz⟩ : ∃ z ∈ Z, x.1.1 = (bucketN f z : Nat) := by
      rcases mem_ofL (f := f) _ i1 with ⟨b, hb, h1⟩ | h1
      · obtain ⟨y, hy, rfl⟩ := List.mem_map.1 hb
        obtain ⟨z, hz, rfl⟩ := List.mem_map.1 hy
        exact ⟨z, hz, h1⟩
      · cases h1
    have hz64 := h z hz
    obtain ⟨lo, hi, h1, h2, h3, h4, h5, h6, h7⟩ := bounds_bucket (f := f) hz64 hf
    have hbs : boundsB f x.1.1 = some (lo, hi) := by
      have hb := bucketN_bd (f := f) hz64 hf
      unfold boundsB
      rw [hxz, if_pos (by simp [fineB]; exact ⟨by omega, by exact_mod_cast hb⟩), Int.toNat_natCast, Int.toNat_natCast, h1]
    refine .inr ⟨by omega, lo, hi, hbs, by omega, h4, ?_, fun hne => ?_⟩
    · rw [rank_sum hc.right, bucketB_fine hf, h6, ← hxz]
      exact i2
    · rw [rank_sum hc.right, bucketB_fine hf]
      have h8 := h7 hne
      have := sumP_le (P := fun a => decide (a ≤ (bucketN f (lo - 1) : Nat))) (Q := fun a => decide (a < x.1.1)) (L := ofL f (onesI Z)) fun b _ hb => by
        simp only [decide_eq_true_eq] at hb ⊢; omega
      omega
end Go.Proofs.Ytnoemopaplopdaa
