/- What a set's text tells, sorted: plain. -/
import Derived.Test.YtjhdgpboofcelaaGreatEH
namespace Go.Proofs.YtjhdgpboofcelaaGreat
open Go.RowKit

theorem sortA_sorted (L : List BLab) : (sortA L).Pairwise fun x y => ¬ y.1.toList < x.1.toList := by
  have h := (insertion_perm L.toArray).2
  rw [List.pairwise_iff_getElem]
  intro i j hi hj hij
  have hs : (sortA L).length = L.length := (sortA_perm L).length_eq
  have h1 := h i j (Nat.zero_le _) hij (by rw [List.size_toArray]; omega)
  have hz : (Sort.insertionSort (ltOf cfB) L.toArray 0 L.toArray.size).size = L.length := by rw [insertion_size]; simp
  rw [getElem!_pos _ j (by omega), getElem!_pos _ i (by omega)] at h1
  have hlt : ∀ x y, ltOf cfB x y = decide (x.1.toList < y.1.toList) := fun x y => by rw [ltOf_cfB]; rfl
  rw [hlt] at h1
  have h2 := of_decide_eq_false h1
  have g : ∀ k (hk : k < (sortA L).length), (sortA L)[k] = (Sort.insertionSort (ltOf cfB) L.toArray 0 L.toArray.size)[k]'(by omega) := fun k hk => by
    simp only [sortA, Array.getElem_toList, List.size_toArray]
  rw [g i hi, g j hj]
  exact h2
theorem rises_inj (L : List BLab) (h : Rises L) (x y : BLab) (hx : x ∈ L) (hy : y ∈ L) (he : x.1 = y.1) : x = y := by
  obtain ⟨i, hi, rfl⟩ := List.mem_iff_getElem.1 hx
  obtain ⟨j, hj, rfl⟩ := List.mem_iff_getElem.1 hy
  have h1 := find_rises L h i hi
  have h2 := find_rises L h j hj
  rw [he, h2] at h1
  exact (Option.some.inj h1).symm
theorem sort_rises (K L : List BLab) (hp : K.Perm L) (h : Rises L) : sortA K = L := by
  refine List.Perm.eq_of_pairwise (le := fun x y => ¬ y.1.toList < x.1.toList) ?_ (sortA_sorted K) ?_ ((sortA_perm K).trans hp)
  · intro a b ha hb h1 h2
    have ha' : a ∈ L := hp.mem_iff.1 ((sortA_perm K).mem_iff.1 ha)
    have he : a.1.toList = b.1.toList := List.le_antisymm (List.not_lt.1 h1) (List.not_lt.1 h2)
    exact rises_inj L h a b ha' hb (bytes_ext he)
  · exact h.imp fun hlt => List.lt_asymm hlt
theorem right_ne (L : List BLab) (h : rightA L = true) : L ≠ [] := by
  rintro rfl
  cases h
/-- The text of a set's labels, in whatever order, tells the set. -/
theorem parse_text (K L : List BLab) (h : rightA L = true) (hp : K.Perm L) : readB (textA K) = some K ∧ parseA (textA K) = some L := by
  have hne : K ≠ [] := by
    rintro rfl
    exact right_ne L h hp.nil_eq.symm
  have hr := read_text K hne (fun y hy => by
    obtain ⟨i, hi, rfl⟩ := List.mem_iff_getElem.1 (hp.mem_iff.1 hy)
    exact right_at L h i hi)
  refine ⟨hr, ?_⟩
  unfold parseA
  rw [hr]
  show (if rightA (sortA K) then some (sortA K) else none) = _
  rw [sort_rises K L hp (right_rises L h), if_pos h]
theorem textA_size : ∀ (L : List BLab), (∀ x ∈ L, x.1.size ≤ 1000 ∧ x.2.size ≤ 1000) → (textA L).length ≤ L.length * 4000
  | [], _ => Nat.le_refl _
  | [x], h => by
    rw [textA_one]
    have := h x (by simp)
    have h2 := esc_le x.2.data.toList
    rw [data_length] at h2
    unfold labT
    simp
    omega
  | x :: y :: l, h => by
    have ih := textA_size (y :: l) (fun z hz => h z (by simp only [List.mem_cons] at hz ⊢; exact .inr hz))
    rw [textA_two]
    have := h x (by simp)
    have h2 := esc_le x.2.data.toList
    rw [data_length] at h2
    have e : (labT x).data.toList.length ≤ 3100 := by
      unfold labT
      simp
      omega
    simp only [List.length_append, List.length_cons, List.length_nil] at ih ⊢
    omega
/-- One label of a set is a set. -/
theorem right_one (L : List BLab) (h : rightA L = true) (i : Nat) (hi : i < L.length) : rightA [L[i]] = true := by
  obtain ⟨h1, h2⟩ := right_at L h i hi
  rw [right_of [L[i]] (fun j hj => by
    obtain rfl : j = 0 := by simp at hj; exact hj
    exact ⟨h1, h2⟩) (fun j hj => by simp at hj)]
  rfl
theorem textA_turn (L : List BLab) (k : Nat) (h : k < L.length) : textA (L.take (k + 1)).reverse = textA [L[k]] ++ (if k = 0 then [] else [44] ++ textA (L.take k).reverse) := by
  rw [List.take_succ_eq_append_getElem h, List.reverse_append, List.reverse_singleton, List.singleton_append]
  by_cases h0 : k = 0
  · subst h0
    simp
  · rw [if_neg h0]
    cases hr : (L.take k).reverse with
    | nil =>
      have := congrArg List.length hr
      rw [List.length_reverse, List.length_take, List.length_nil] at this
      omega
    | cons y l => rw [textA_two, textA_one]
theorem textA_ne (L : List BLab) (h : L ≠ []) : textA L ≠ [] := by
  obtain ⟨x, L, rfl⟩ := List.exists_cons_of_ne_nil h
  have hx : (labT x).data.toList ≠ [] := by
    unfold labT
    simp
  cases L with
  | nil => rw [textA_one]; exact hx
  | cons y l => rw [textA_two]; intro h2; exact hx (List.append_eq_nil_iff.1 h2).1
end Go.Proofs.YtjhdgpboofcelaaGreat
