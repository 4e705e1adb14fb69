/- Plain laws on histograms: bins that rise, sums, ranks. -/
import Derived.Test.YtnoemopaplopdaaI4
import Derived.Test.YtnoemopaplopdaaHX
namespace Go.Proofs.Ytnoemopaplopdaa
open Go.RowKit Go.Maps

theorem getM_cons (a : Int) (n : Nat) (M : List (Int × Nat)) (c : Int) : getM ((a, n) :: M) c = if a = c then n else getM M c := by
  unfold getM
  by_cases h : a = c
  · rw [if_pos h, List.find?_cons_of_pos (by simpa using h)]
  · rw [if_neg h, List.find?_cons_of_neg (by simpa using h)]
theorem getM_none {c : Int} : ∀ {M : List (Int × Nat)}, (∀ p ∈ M, p.1 ≠ c) → getM M c = 0
  | [], _ => rfl
  | (a, n) :: M, h => by
    rw [getM_cons, if_neg (h (a, n) (by simp))]
    exact getM_none fun p hp => h p (by simp [hp])
theorem getM_delM (a c : Int) : ∀ M : List (Int × Nat), getM (delM M a) c = if c = a then 0 else getM M c
  | [] => by simp [delM, getM]
  | (b, n) :: M => by
    have ih := getM_delM a c M
    have e : delM ((b, n) :: M) a = if b = a then delM M a else (b, n) :: delM M a := by
      unfold delM
      by_cases h : b = a <;> simp [h]
    rw [e]
    by_cases h : b = a
    · rw [if_pos h, ih, getM_cons]
      by_cases hc : c = a
      · simp [hc]
      · rw [if_neg hc, if_neg hc, if_neg (by omega)]
    · rw [if_neg h, getM_cons, getM_cons, ih]
      by_cases hc : c = a
      · rw [if_pos hc, if_pos hc, if_neg (by omega)]
      · rw [if_neg hc, if_neg hc]
theorem getM_insM (a c : Int) (n : Nat) : ∀ {M : List (Int × Nat)}, (∀ p ∈ M, p.1 ≠ a) → getM (insM (a, n) M) c = if c = a then n else getM M c
  | [], _ => by simp [insM, getM_cons]; by_cases h : a = c <;> simp [h, getM]; intro h2; exact absurd h2.symm h
  | (b, k) :: M, h => by
    have ih := getM_insM a c n (M := M) fun p hp => h p (by simp [hp])
    have hb : b ≠ a := h (b, k) (by simp)
    unfold insM
    split
    · rw [getM_cons]
      by_cases hc : c = a
      · rw [if_pos hc.symm, if_pos hc]
      · rw [if_neg (Ne.symm hc), if_neg hc]
    · rw [getM_cons, ih, getM_cons]
      by_cases hc : c = a
      · rw [if_neg (by omega), if_pos hc, if_pos hc]
      · rw [if_neg hc, if_neg hc]
theorem delM_ne (M : List (Int × Nat)) (a : Int) : ∀ p ∈ delM M a, p.1 ≠ a := fun p hp => by simpa [delM] using (List.mem_filter.1 hp).2
theorem getM_addB (M : List (Int × Nat)) (a : Int) (n : Nat) (c : Int) : getM (addB M (a, n)) c = if c = a then satU (getM M a) n else getM M c := by
  unfold addB
  simp only
  split
  · rename_i h
    rw [getM_delM]
    by_cases hc : c = a
    · rw [if_pos hc, if_pos hc, h]
    · rw [if_neg hc, if_neg hc]
  · unfold putM
    rw [getM_insM _ _ _ (delM_ne M a), getM_delM]
    by_cases hc : c = a
    · rw [if_pos hc, if_pos hc]
    · rw [if_neg hc, if_neg hc, if_neg hc]
theorem Rising.delM {M : List (Int × Nat)} (h : Rising M) (a : Int) : Rising (delM M a) := h.sublist List.filter_sublist
theorem Rising.addB {M : List (Int × Nat)} (h : Rising M) (b : Int × Nat) : Rising (addB M b) := by
  unfold Proofs.Ytnoemopaplopdaa.addB
  split
  · exact h.delM _
  · exact rising_insM (h.delM _) (delM_ne M _)
theorem Rising.addBs (L : List (Int × Nat)) : ∀ {M : List (Int × Nat)}, Rising M → Rising (L.foldl Proofs.Ytnoemopaplopdaa.addB M) := by
  induction L with
  | nil => intro M h; exact h
  | cons b L ih => intro M h; exact ih (h.addB b)
/-- Two maps that tell the same are the same. -/
theorem rising_ext : ∀ {M N : List (Int × Nat)}, Rising M → Rising N → (∀ p ∈ M, p.2 ≠ 0) → (∀ p ∈ N, p.2 ≠ 0) → (∀ a, getM M a = getM N a) → M = N
  | [], [], _, _, _, _, _ => rfl
  | [], (b, k) :: N, _, _, _, hN, h => by
    have := h b
    rw [getM_cons, if_pos rfl] at this
    exact absurd this.symm (hN (b, k) (by simp))
  | (a, n) :: M, [], _, _, hM, _, h => by
    have := h a
    rw [getM_cons, if_pos rfl] at this
    exact absurd this (hM (a, n) (by simp))
  | (a, n) :: M, (b, k) :: N, rM, rN, hM, hN, h => by
    have r1 := List.pairwise_cons.1 rM
    have r2 := List.pairwise_cons.1 rN
    have hn : n ≠ 0 := hM (a, n) (by simp)
    have hk : k ≠ 0 := hN (b, k) (by simp)
    have ha := h a
    have hb := h b
    rw [getM_cons, getM_cons, if_pos rfl] at ha hb
    have hab : a = b := by
      rcases Int.lt_trichotomy a b with hlt | heq | hgt
      · rw [if_neg (by omega), getM_none (fun p hp => by have := r2.1 p hp; simp only at this; omega)] at ha
        exact absurd ha hn
      · exact heq
      · rw [if_neg (by omega), getM_none (fun p hp => by have := r1.1 p hp; simp only at this; omega)] at hb
        exact absurd hb.symm hk
    subst hab
    rw [if_pos rfl] at ha
    subst ha
    have : M = N := rising_ext r1.2 r2.2 (fun p hp => hM p (by simp [hp])) (fun p hp => hN p (by simp [hp])) fun c => by
      by_cases hc : a = c
      · subst hc
        rw [getM_none (fun p hp => by have := r1.1 p hp; simp only at this; omega), getM_none (fun p hp => by have := r2.1 p hp; simp only at this; omega)]
      · have := h c
        rwa [getM_cons, getM_cons, if_neg hc, if_neg hc] at this
    rw [this]

/-- Bins as a histogram has them. -/
structure Canon (f : Int) (M : List (Int × Nat)) : Prop where
  fine : fineB f = true
  rising : Rising M
  bins : ∀ b ∈ M, b.2 ≠ 0 ∧ b.2 ≤ maxU ∧ (boundsB f b.1).isSome = true
theorem canon_right {f : Int} {L : List (Int × Nat)} (h : rightL f L = true) (hf : FitM L) : Canon f L :=
  ⟨by simp only [rightL, Bool.and_eq_true] at h; exact h.1, rightL_rising h, fun b hb => by have := rightL_mem h b hb; exact ⟨this.2.2.2.1, hf b hb, this.2.2.2.2⟩⟩
theorem rightFrom_canon {f : Int} : ∀ {M : List (Int × Nat)} {z : Int}, Rising M → (∀ b ∈ M, b.2 ≠ 0 ∧ (boundsB f b.1).isSome = true ∧ z < b.1) → rightFrom f z M = true
  | [], _, _, _ => rfl
  | (a, n) :: M, z, hR, h => by
    have h1 := h (a, n) (by simp)
    have h2 := List.pairwise_cons.1 hR
    simp only [rightFrom, Bool.and_eq_true, decide_eq_true_eq]
    exact ⟨⟨⟨h1.2.1, h1.1⟩, h1.2.2⟩, rightFrom_canon h2.2 fun b hb => ⟨(h b (by simp [hb])).1, (h b (by simp [hb])).2.1, h2.1 b hb⟩⟩
theorem Canon.right {f : Int} {M : List (Int × Nat)} (h : Canon f M) : rightL f M = true := by
  simp only [rightL, Bool.and_eq_true]
  exact ⟨h.fine, rightFrom_canon h.rising fun b hb => ⟨(h.bins b hb).1, (h.bins b hb).2.2, by have := boundsB_at (h.bins b hb).2.2; omega⟩⟩
theorem Canon.nil {f : Int} (h : fineB f = true) : Canon f [] := ⟨h, List.Pairwise.nil, fun b hb => by cases hb⟩
theorem Canon.fit {f : Int} {M : List (Int × Nat)} (h : Canon f M) : FitM M := fun p hp => (h.bins p hp).2.1
theorem Canon.addB {f : Int} {M : List (Int × Nat)} (h : Canon f M) {b : Int × Nat} (hb : (boundsB f b.1).isSome = true) : Canon f (addB M b) := by
  refine ⟨h.fine, h.rising.addB b, fun p hp => ?_⟩
  unfold Proofs.Ytnoemopaplopdaa.addB at hp
  split at hp
  · exact h.bins p (List.mem_filter.1 hp).1
  · rename_i h0
    rcases mem_insM.1 hp with rfl | hp
    · exact ⟨h0, Nat.min_le_right _ _, hb⟩
    · exact h.bins p (List.mem_filter.1 hp).1
theorem Canon.addBs {f : Int} {L : List (Int × Nat)} : ∀ {M : List (Int × Nat)}, Canon f M → (∀ b ∈ L, (boundsB f b.1).isSome = true) → Canon f (L.foldl Proofs.Ytnoemopaplopdaa.addB M) := by
  induction L with
  | nil => intro M h _; exact h
  | cons b L ih => intro M h hL; exact ih (h.addB (hL b (by simp))) fun q hq => hL q (by simp [hq])
theorem Canon.ext {f g : Int} {M N : List (Int × Nat)} (h : Canon f M) (k : Canon g N) (he : ∀ a, getM M a = getM N a) : M = N :=
  rising_ext h.rising k.rising (fun p hp => (h.bins p hp).1) (fun p hp => (k.bins p hp).1) he

/-- The sum of the bins that P lets by. -/
def sumP (P : Int → Bool) : List (Int × Nat) → Nat
  | [] => 0
  | b :: l => (if P b.1 then b.2 else 0) + sumP P l
theorem sumP_append (P : Int → Bool) : ∀ (L K : List (Int × Nat)), sumP P (L ++ K) = sumP P L + sumP P K
  | [], K => by simp [sumP]
  | b :: L, K => by simp only [List.cons_append, sumP, sumP_append P L K]; omega
theorem sumP_insM (P : Int → Bool) (x : Int × Nat) : ∀ M : List (Int × Nat), sumP P (insM x M) = (if P x.1 then x.2 else 0) + sumP P M
  | [] => rfl
  | y :: M => by
    unfold insM
    split
    · rfl
    · simp only [sumP, sumP_insM P x M]; omega
theorem delM_self {M : List (Int × Nat)} {a : Int} (h : ∀ p ∈ M, p.1 ≠ a) : delM M a = M := List.filter_eq_self.2 fun p hp => by simpa using h p hp
theorem sumP_delM (P : Int → Bool) (a : Int) : ∀ {M : List (Int × Nat)}, Rising M → sumP P (delM M a) + (if P a then getM M a else 0) = sumP P M
  | [], _ => by simp [delM, sumP, getM]
  | (b, n) :: M, hR => by
    have r := List.pairwise_cons.1 hR
    have e : delM ((b, n) :: M) a = if b = a then delM M a else (b, n) :: delM M a := by
      unfold delM
      by_cases h : b = a <;> simp [h]
    rw [e, getM_cons]
    by_cases h : b = a
    · subst h
      rw [if_pos rfl, if_pos rfl, delM_self (fun p hp => by have := r.1 p hp; simp only at this; omega)]
      simp only [sumP]; omega
    · rw [if_neg h, if_neg h]
      have := sumP_delM P a r.2
      simp only [sumP]; omega
theorem sumP_addB (P : Int → Bool) {M : List (Int × Nat)} (hR : Rising M) (a : Int) (n : Nat) : sumP P (addB M (a, n)) + (if P a then getM M a else 0) = sumP P M + (if P a then satU (getM M a) n else 0) := by
  have h := sumP_delM P a hR
  unfold addB
  simp only
  split
  · rename_i h0
    rw [h0]
    have e : (if P a = true then 0 else 0) = 0 := by split <;> rfl
    rw [e]; omega
  · unfold putM
    rw [sumP_insM]
    simp only
    omega
theorem min_addB (P : Int → Bool) {M : List (Int × Nat)} (hR : Rising M) (b : Int × Nat) : min (sumP P (addB M b)) maxU = min (sumP P M + (if P b.1 then b.2 else 0)) maxU := by
  obtain ⟨a, n⟩ := b
  have h1 := sumP_addB P hR a n
  have h2 := sumP_delM P a hR
  simp only
  unfold satU at h1
  cases hp : P a
  · simp only [hp, Bool.false_eq_true, if_false] at h1 h2 ⊢; omega
  · simp only [hp, if_true] at h1 h2 ⊢; omega
theorem min_addBs (P : Int → Bool) : ∀ (L : List (Int × Nat)) {M : List (Int × Nat)}, Rising M → min (sumP P (L.foldl addB M)) maxU = min (sumP P M + sumP P L) maxU
  | [], M, _ => by simp [sumP]
  | b :: L, M, hR => by
    have h1 := min_addBs P L (hR.addB b)
    have h2 := min_addB P hR b
    simp only [List.foldl_cons, sumP]
    rw [h1]
    omega
theorem getM_sum (a : Int) : ∀ {M : List (Int × Nat)}, Rising M → getM M a = sumP (fun x => decide (x = a)) M
  | [], _ => rfl
  | (b, n) :: M, hR => by
    have r := List.pairwise_cons.1 hR
    have ih := getM_sum a r.2
    rw [getM_cons]
    simp only [sumP]
    by_cases h : b = a
    · subst h
      have : getM M b = 0 := getM_none fun p hp => by have := r.1 p hp; simp only at this; omega
      simp only [if_true, decide_true]
      omega
    · simp only [if_neg h, decide_eq_false h, Bool.false_eq_true, if_false]; omega
theorem getM_addBs (a : Int) (L : List (Int × Nat)) {M : List (Int × Nat)} (hR : Rising M) (hF : FitM M) : getM (L.foldl addB M) a = min (getM M a + sumP (fun x => decide (x = a)) L) maxU := by
  have h1 := min_addBs (fun x => decide (x = a)) L hR
  have h2 := getM_sum a (hR.addBs L)
  have h3 := getM_sum a hR
  have h4 := getM_fit (fit_addBs L hF) a
  omega
/-- Bins that are a histogram's, added one by one, are the histogram's. -/
theorem Canon.norm {f : Int} {M : List (Int × Nat)} (h : Canon f M) : M.foldl Proofs.Ytnoemopaplopdaa.addB [] = M := by
  refine Canon.ext (f := f) (Canon.addBs (Canon.nil h.fine) fun b hb => (h.bins b hb).2.2) h fun a => ?_
  rw [getM_addBs a M List.Pairwise.nil (fun p hp => by cases hp), ← getM_sum a h.rising]
  have := getM_fit h.fit a
  have e : getM [] a = 0 := rfl
  omega
theorem sumsFrom_rank (k : Nat) : ∀ (L : List (Int × Nat)) (acc : Nat), Rising L → acc ≤ maxU → (sumsFrom acc L).foldl (fun o x => if x.1.1 ≤ (k : Int) then x.2 else o) acc = min (acc + sumP (fun x => decide (x ≤ (k : Int))) L) maxU
  | [], acc, _, h => by simp [sumsFrom, sumP]; omega
  | (b, n) :: L, acc, hR, h => by
    have r := List.pairwise_cons.1 hR
    simp only [sumsFrom, List.foldl_cons, sumP]
    by_cases hb : b ≤ (k : Int)
    · simp only [if_pos hb, decide_eq_true hb, if_true]
      rw [sumsFrom_rank k L (satU acc n) r.2 (Nat.min_le_right _ _)]
      unfold satU; omega
    · simp only [if_neg hb, decide_eq_false hb, Bool.false_eq_true, if_false]
      have h0 : ∀ (L : List (Int × Nat)) (acc o : Nat), (∀ p ∈ L, (k : Int) < p.1) → (sumsFrom acc L).foldl (fun o x => if x.1.1 ≤ (k : Int) then x.2 else o) o = o ∧ sumP (fun x => decide (x ≤ (k : Int))) L = 0 := by
        intro L
        induction L with
        | nil => intro acc o _; exact ⟨rfl, rfl⟩
        | cons p L ih =>
          intro acc o hp
          have h1 := hp p (by simp)
          simp only [sumsFrom, List.foldl_cons, sumP]
          rw [if_neg (by omega), if_neg (by simp; omega)]
          have := ih (satU acc p.2) o fun q hq => hp q (by simp [hq])
          exact ⟨this.1, by omega⟩
      have := h0 L (satU acc n) acc fun p hp => by have := r.1 p hp; simp only at this; omega
      rw [this.1, this.2]
      omega
theorem rank_sum {f : Int} {L : List (Int × Nat)} (h : rightL f L = true) (v : Nat) : rankH f L v = min (sumP (fun x => decide (x ≤ (bucketB f v : Int))) L) maxU := by
  unfold rankH rankTo sumsL
  rw [if_pos h]
  have := sumsFrom_rank (bucketB f v) L 0 (rightL_rising h) (by omega)
  rw [this]; congr 1; omega
theorem sumP_all {P Q : Int → Bool} : ∀ {L : List (Int × Nat)}, (∀ b ∈ L, P b.1 = Q b.1) → sumP P L = sumP Q L
  | [], _ => rfl
  | b :: L, h => by
    simp only [sumP]
    rw [h b (by simp), sumP_all (L := L) fun p hp => h p (by simp [hp])]
theorem sumP_le {P Q : Int → Bool} : ∀ {L : List (Int × Nat)}, (∀ b ∈ L, P b.1 = true → Q b.1 = true) → sumP P L ≤ sumP Q L
  | [], _ => Nat.le_refl _
  | b :: L, h => by
    have := sumP_le (L := L) fun p hp => h p (by simp [hp])
    have h1 := h b (by simp)
    simp only [sumP]
    cases hp : P b.1
    · simp; omega
    · rw [h1 hp]; omega
theorem bucketN_isSome {f : Nat} (hf : f ≤ 3) {v : Nat} (hv : v < 2 ^ 64) : (boundsB f (bucketN f v)).isSome = true := by
  have hb := bucketN_bd (f := f) hv hf
  obtain ⟨lo, hi, h1, -⟩ := bounds_bucket (f := f) hv hf
  unfold boundsB
  rw [if_pos (by simp [fineB]; exact ⟨by omega, by exact_mod_cast hb⟩), Int.toNat_natCast, Int.toNat_natCast, h1]
  rfl
end Go.Proofs.Ytnoemopaplopdaa
