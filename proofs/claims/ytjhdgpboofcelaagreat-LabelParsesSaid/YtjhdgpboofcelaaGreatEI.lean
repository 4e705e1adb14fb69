/- What a set's text tells: plain. -/
import Derived.Test.YtjhdgpboofcelaaGreatEE
namespace Go.Proofs.YtjhdgpboofcelaaGreat
open Go.RowKit
open Go.Lib (decodeL validD)

theorem ascii_runes : ∀ l : List UInt8, (∀ b ∈ l, b.toNat < 128) → validD l = true ∧ runes l = l.map fun b => [b]
  | [], _ => ⟨rfl, rfl⟩
  | b :: l, h => by
    have hb := h b (by simp)
    obtain ⟨h1, h2⟩ := ascii_runes l fun c hc => h c (by simp [hc])
    have hd : decodeL (b :: l) = (b.toNat, 1) := by
      have hnv : ¬ ((decodeL (b :: l)).1 = 65533 ∧ (decodeL (b :: l)).2 = 1) := by
        intro hv
        rw [Lib.decodeL_N (b :: l)] at hv
        simp [Lib.decodeN, hb] at hv
        omega
      rcases rune_bytes (b :: l) (by simp) hnv with ⟨-, h3, -⟩ | ⟨h3, h4, h5⟩
      · simpa using h3
      · have := h5 b (by rw [List.take_cons (by omega)]; simp)
        omega
    refine ⟨?_, ?_⟩
    · rw [Lib.validD_step _ (by simp), hd, if_neg (by rintro ⟨h3, -⟩; simp at h3; omega)]
      exact h1
    · rw [runes_cons b l hb, h2]
      rfl
/-- A rune as its text has it. -/
def escR (c : List UInt8) : List (List UInt8) := if c = [92] ∨ c = [44] then [[92], c] else [c]
theorem esc_high : ∀ l : List UInt8, (∀ b ∈ l, 128 ≤ b.toNat) → esc l = l
  | [], _ => rfl
  | b :: l, h => by
    have hb := h b (by simp)
    rw [esc_cons, esc_high l fun c hc => h c (by simp [hc])]
    unfold escB
    rw [if_neg (by rintro (rfl | rfl) <;> simp at hb)]
    rfl
theorem esc_runes : ∀ (n : Nat) (v : List UInt8), v.length ≤ n → validD v = true → validD (esc v) = true ∧ runes (esc v) = (runes v).flatMap escR
  | 0, v, hl, _ => by
    obtain rfl : v = [] := List.eq_nil_of_length_eq_zero (by omega)
    exact ⟨rfl, rfl⟩
  | n + 1, v, hl, hv => by
    by_cases hne : v = []
    · subst hne; exact ⟨rfl, rfl⟩
    rw [Lib.validD_step v hne] at hv
    by_cases hb : (decodeL v).1 = 65533 ∧ (decodeL v).2 = 1
    · rw [if_pos hb] at hv; cases hv
    rw [if_neg hb] at hv
    have hw := Lib.decodeL_width v
    have hle := Lib.decodeL_le v hne
    obtain ⟨i1, i2⟩ := esc_runes n (v.drop (decodeL v).2) (by rw [List.length_drop]; omega) hv
    rw [runes_step v hne, List.flatMap_cons, ← i2]
    have hsp : esc v = esc (v.take (decodeL v).2) ++ esc (v.drop (decodeL v).2) := by rw [← esc_append, List.take_append_drop]
    rw [hsp]
    generalize esc (v.drop (decodeL v).2) = X at *
    rcases rune_bytes v hne hb with ⟨h1, h2, h3⟩ | ⟨h1, h2, h3⟩
    · rw [h2] at hw ⊢
      simp only
      rw [h3]
      generalize v.getD 0 0 = b at *
      have hbb : b.toNat < 128 := h1
      have he : esc [b] = escB b := by rw [esc_cons]; simp [esc]
      rw [he]
      unfold escB escR
      by_cases hs : b = 92 ∨ b = 44
      · have hs' : [b] = [92] ∨ [b] = [44] := by rcases hs with rfl | rfl <;> simp
        rw [if_pos hs, if_pos hs']
        obtain ⟨a1, a2⟩ := ascii_runes [92, b] (fun c hc => by
          simp at hc
          rcases hc with rfl | rfl
          · decide
          · exact hbb)
        exact ⟨by rw [validD_append X a1]; exact i1, by rw [runes_append X a1, a2]; rfl⟩
      · have hs' : ¬ ([b] = [92] ∨ [b] = [44]) := by
          rintro (h | h)
          · exact hs (.inl (List.cons.inj h).1)
          · exact hs (.inr (List.cons.inj h).1)
        rw [if_neg hs, if_neg hs']
        obtain ⟨a1, a2⟩ := ascii_runes [b] (fun c hc => by
          simp at hc; subst hc; exact hbb)
        exact ⟨by rw [validD_append X a1]; exact i1, by rw [runes_append X a1, a2]; rfl⟩
    · have hc : esc (v.take (decodeL v).2) = v.take (decodeL v).2 := esc_high _ h3
      have hcne : v.take (decodeL v).2 ≠ [] := by
        intro h
        have := congrArg List.length h
        have hl0 : 0 < v.length := List.length_pos_iff.2 hne
        rw [List.length_take, List.length_nil] at this
        omega
      have hlen : (v.take (decodeL v).2).length = (decodeL v).2 := by rw [List.length_take]; omega
      have hcd : decodeL (v.take (decodeL v).2) = decodeL v := by
        have hsp2 : v.take (decodeL v).2 ++ v.drop (decodeL v).2 = v := List.take_append_drop _ _
        have := decodeL_of_append (v.take (decodeL v).2) (v.drop (decodeL v).2) hcne (by rw [hsp2]; exact hb) (by rw [hsp2, hlen]; exact Nat.le_refl _)
        rw [hsp2] at this
        exact this
      have hcv : validD (v.take (decodeL v).2) = true := by
        rw [Lib.validD_step _ hcne, hcd, if_neg hb, List.drop_eq_nil_of_le (by omega)]
        rfl
      have hcr : runes (v.take (decodeL v).2) = [v.take (decodeL v).2] := by
        rw [runes_step _ hcne, hcd, List.drop_eq_nil_of_le (by omega), runes_nil, List.take_take, Nat.min_self]
      have hes : escR (v.take (decodeL v).2) = [v.take (decodeL v).2] := by
        unfold escR
        rw [if_neg]
        rintro (h | h) <;> (rw [h] at hlen; simp only [List.length_singleton] at hlen; omega)
      rw [hc, hes]
      exact ⟨by rw [validD_append X hcv]; exact i1, by rw [runes_append X hcv, hcr]⟩
theorem rdFold_append (r : Rd) (a b : List (List UInt8)) : rdFold r (a ++ b) = rdFold (rdFold r a) b := List.foldl_append
theorem mk_beq (c d : List UInt8) : ((⟨c.toArray⟩ : ByteArray) == ⟨d.toArray⟩) = (c == d) := by
  have e : ((⟨c.toArray⟩ : ByteArray) == ⟨d.toArray⟩) = (c.toArray == d.toArray) := rfl
  rw [e]
  simp
theorem keyIs_mk (c : List UInt8) (b : UInt8) : keyIs ⟨c.toArray⟩ b = (c == [b]) := mk_beq c [b]
theorem eqIs_mk (c : List UInt8) : eqIs ⟨c.toArray⟩ = (c == [61]) := by
  unfold eqIs
  rw [Lib.toList_data]
theorem append_mk (s : ByteArray) (c d : List UInt8) : s ++ (⟨c.toArray⟩ : ByteArray) ++ ⟨d.toArray⟩ = s ++ ⟨(c ++ d).toArray⟩ := by
  apply ByteArray.ext
  simp
theorem append_nil (s : ByteArray) : s ++ (⟨([] : List UInt8).toArray⟩ : ByteArray) = s := by
  apply ByteArray.ext
  simp
theorem value_fold : ∀ (cs : List (List UInt8)) (r : Rd), r.inVal = true → r.esc = false → rdFold r (cs.flatMap escR) = { r with value := r.value ++ ⟨cs.flatten.toArray⟩ }
  | [], r, _, _ => by
    show r = _
    rw [List.flatten_nil, append_nil]
  | c :: cs, r, h1, h2 => by
    rw [List.flatMap_cons, rdFold_append, List.flatten_cons]
    have hr : rdFold r (escR c) = { r with value := r.value ++ ⟨c.toArray⟩ } := by
      unfold escR
      by_cases hs : c = [92] ∨ c = [44]
      · rw [if_pos hs]
        show (r.step ⟨[92].toArray⟩).step ⟨c.toArray⟩ = _
        unfold Rd.step
        simp only [h1, h2, keyIs_mk, if_true, Bool.not_false, Bool.and_true]
        simp [h2]
      · rw [if_neg hs]
        show r.step ⟨c.toArray⟩ = _
        unfold Rd.step
        have g1 : (c == [44]) = false := beq_eq_false_iff_ne.2 fun h => hs (.inr h)
        have g2 : (c == [92]) = false := beq_eq_false_iff_ne.2 fun h => hs (.inl h)
        simp only [h1, h2, keyIs_mk, g1, g2, if_true, Bool.false_and, Bool.false_eq_true, if_false]
    rw [hr, value_fold cs { r with value := r.value ++ ⟨c.toArray⟩ } h1 h2]
    simp only
    rw [append_mk]
theorem name_fold : ∀ (cs : List (List UInt8)) (r : Rd), r.inVal = false → (∀ c ∈ cs, c ≠ [61]) → rdFold r cs = { r with name := r.name ++ ⟨cs.flatten.toArray⟩ }
  | [], r, _, _ => by
    show r = _
    rw [List.flatten_nil, append_nil]
  | c :: cs, r, h1, h2 => by
    have hr : r.step ⟨c.toArray⟩ = { r with name := r.name ++ ⟨c.toArray⟩ } := by
      unfold Rd.step
      have g1 : (c == [61]) = false := beq_eq_false_iff_ne.2 (h2 c (by simp))
      simp only [h1, eqIs_mk, g1, Bool.false_eq_true, if_false]
    show rdFold (r.step ⟨c.toArray⟩) cs = _
    rw [hr, name_fold cs { r with name := r.name ++ ⟨c.toArray⟩ } h1 fun d hd => h2 d (by simp [hd]), List.flatten_cons]
    simp only
    rw [append_mk]
def rdA (A : List BLab) : Rd := { name := ⟨#[]⟩, value := ⟨#[]⟩, all := A, inVal := false, esc := false }
theorem nil_append_mk (l : List UInt8) (s : ByteArray) (h : s.data.toList = l) : (⟨#[]⟩ : ByteArray) ++ ⟨l.toArray⟩ = s := by
  subst h
  apply ByteArray.ext
  simp
theorem az_low (l : List UInt8) (h : l.all isAz = true) : ∀ b ∈ l, b.toNat < 128 ∧ b ≠ 61 := by
  intro b hb
  have := List.all_eq_true.1 h b hb
  unfold isAz at this
  simp only [Bool.and_eq_true, decide_eq_true_eq] at this
  exact ⟨by omega, by rintro rfl; simp at this⟩
theorem name_az (x : ByteArray) (h : nameB x.data.toList = true) : x.data.toList.all isAz = true := by
  unfold nameB at h
  simp only [Bool.and_eq_true] at h
  exact h.1.1
theorem value_valid (x : ByteArray) (h : valueB x.data.toList = true) : validD x.data.toList = true := by
  unfold valueB at h
  simp only [Bool.and_eq_true] at h
  exact h.1.1
/-- A label's text, read. -/
theorem label_fold (x : BLab) (A : List BLab) (h1 : nameB x.1.data.toList = true) (h2 : valueB x.2.data.toList = true) :
    validD (labT x).data.toList = true ∧ rdFold (rdA A) (runes (labT x).data.toList) = { name := x.1, value := x.2, all := A, inVal := true, esc := false } := by
  have ha := az_low _ (name_az _ h1)
  obtain ⟨n1, n2⟩ := ascii_runes x.1.data.toList fun b hb => (ha b hb).1
  obtain ⟨v1, v2⟩ := esc_runes _ x.2.data.toList (Nat.le_refl _) (value_valid _ h2)
  obtain ⟨q1, q2⟩ := ascii_runes [61] (by simp)
  have hl : (labT x).data.toList = x.1.data.toList ++ ([61] ++ esc x.2.data.toList) := by
    unfold labT
    simp
  rw [hl, validD_append _ n1, validD_append _ q1, runes_append _ n1, runes_append _ q1, v2]
  refine ⟨v1, ?_⟩
  rw [rdFold_append, rdFold_append]
  rw [name_fold (runes x.1.data.toList) (rdA A) rfl (fun c hc => by
    rw [n2] at hc
    obtain ⟨b, hb, rfl⟩ := List.mem_map.1 hc
    intro h
    exact (ha b hb).2 (List.cons.inj h).1), flat_runes]
  have hn : (rdA A).name ++ (⟨x.1.data.toList.toArray⟩ : ByteArray) = x.1 := nil_append_mk _ _ rfl
  rw [hn, q2]
  have hq : ∀ r : Rd, r.inVal = false → rdFold r ([61].map fun b => [b]) = { r with inVal := true } := fun r h => by
    show r.step ⟨[61].toArray⟩ = _
    unfold Rd.step
    simp only [h, eqIs_mk, Bool.false_eq_true, if_false]
    simp
  rw [hq _ rfl, value_fold _ _ rfl rfl, flat_runes]
  simp only
  have hv : (rdA A).value ++ (⟨x.2.data.toList.toArray⟩ : ByteArray) = x.2 := nil_append_mk _ _ rfl
  rw [hv]
  rfl
theorem textA_two (x y : BLab) (l : List BLab) : textA (x :: y :: l) = (labT x).data.toList ++ ([44] ++ textA (y :: l)) := by
  unfold textA
  simp only [List.map_cons]
  rw [Lib.join_cons, Lib.join_cons]
  simp [Lib.joinTail]
theorem textA_one (x : BLab) : textA [x] = (labT x).data.toList := by
  unfold textA
  simp only [List.map_cons, List.map_nil]
  rw [Lib.join_cons]
  simp [Lib.joinTail]
/-- Labels' texts, read. -/
theorem labels_fold : ∀ (L : List BLab) (x : BLab) (A : List BLab), (∀ y ∈ x :: L, nameB y.1.data.toList = true ∧ valueB y.2.data.toList = true) →
    validD (textA (x :: L)) = true ∧ (rdFold (rdA A) (runes (textA (x :: L)))).inVal = true ∧ (rdFold (rdA A) (runes (textA (x :: L)))).esc = false ∧
      (rdFold (rdA A) (runes (textA (x :: L)))).all ++ [((rdFold (rdA A) (runes (textA (x :: L)))).name, (rdFold (rdA A) (runes (textA (x :: L)))).value)] = A ++ x :: L
  | [], x, A, h => by
    rw [textA_one]
    obtain ⟨h1, h2⟩ := label_fold x A (h x (by simp)).1 (h x (by simp)).2
    rw [h2]
    exact ⟨h1, rfl, rfl, rfl⟩
  | y :: L, x, A, h => by
    obtain ⟨h1, h2⟩ := label_fold x A (h x (by simp)).1 (h x (by simp)).2
    obtain ⟨q1, q2⟩ := ascii_runes [44] (by simp)
    have ih := labels_fold L y (A ++ [x]) (fun z hz => h z (by simp only [List.mem_cons] at hz ⊢; exact .inr hz))
    rw [textA_two, validD_append _ h1, validD_append _ q1, runes_append _ h1, runes_append _ q1, rdFold_append, rdFold_append, h2]
    have hq : rdFold { name := x.1, value := x.2, all := A, inVal := true, esc := false } (runes [44]) = rdA (A ++ [x]) := by
      rw [q2]
      show Rd.step { name := x.1, value := x.2, all := A, inVal := true, esc := false } ⟨[44].toArray⟩ = _
      unfold Rd.step
      simp only [keyIs_mk]
      rfl
    rw [hq]
    refine ⟨ih.1, ih.2.1, ih.2.2.1, ?_⟩
    rw [ih.2.2.2]
    simp
theorem read_text (L : List BLab) (hne : L ≠ []) (h : ∀ y ∈ L, nameB y.1.data.toList = true ∧ valueB y.2.data.toList = true) : readB (textA L) = some L := by
  obtain ⟨x, L, rfl⟩ := List.exists_cons_of_ne_nil hne
  obtain ⟨h1, h2, h3, h4⟩ := labels_fold L x [] h
  unfold readB
  rw [if_pos h1]
  simp only []
  have e : rd0 = rdA [] := rfl
  rw [e, h2, h3, h4]
  rfl

theorem sortA_sorted (L : List BLab) : (sortA L).Pairwise fun x y => ¬ y.1.toList < x.1.toList := by
  have h := (insertion_perm L.toArray).2
  rw [List.pairwise_iff_getElem]
  intro i j hi hj hij
  have hs : (sortA L).length = L.length := (sortA_perm L).length_eq
  have h1 := h i j (Nat.zero_le _) hij (by rw [List.size_toArray]; omega)
  have hz : (Sort.insertionSort (ltOf cfB) L.toArray 0 L.toArray.size).size = L.length := by rw [insertion_size]; simp
  rw [getElem!_pos _ j (by omega), getElem!_pos _ i (by omega)] at h1
  have hlt : ∀ x y, ltOf cfB x y = decide (x.1.toList < y.1.toList) := fun x y => by rw [ltOf_cfB]; rfl
  rw [hlt] at h1
  have h2 := of_decide_eq_false h1
  have g : ∀ k (hk : k < (sortA L).length), (sortA L)[k] = (Sort.insertionSort (ltOf cfB) L.toArray 0 L.toArray.size)[k]'(by omega) := fun k hk => by
    simp only [sortA, Array.getElem_toList, List.size_toArray]
  rw [g i hi, g j hj]
  exact h2
theorem rises_inj (L : List BLab) (h : Rises L) (x y : BLab) (hx : x ∈ L) (hy : y ∈ L) (he : x.1 = y.1) : x = y := by
  obtain ⟨i, hi, rfl⟩ := List.mem_iff_getElem.1 hx
  obtain ⟨j, hj, rfl⟩ := List.mem_iff_getElem.1 hy
  have h1 := find_rises L h i hi
  have h2 := find_rises L h j hj
  rw [he, h2] at h1
  exact (Option.some.inj h1).symm
theorem sort_rises (K L : List BLab) (hp : K.Perm L) (h : Rises L) : sortA K = L := by
  refine List.Perm.eq_of_pairwise (le := fun x y => ¬ y.1.toList < x.1.toList) ?_ (sortA_sorted K) ?_ ((sortA_perm K).trans hp)
  · intro a b ha hb h1 h2
    have ha' : a ∈ L := hp.mem_iff.1 ((sortA_perm K).mem_iff.1 ha)
    have he : a.1.toList = b.1.toList := List.le_antisymm (List.not_lt.1 h1) (List.not_lt.1 h2)
    exact rises_inj L h a b ha' hb (bytes_ext he)
  · exact h.imp fun hlt => List.lt_asymm hlt
theorem right_ne (L : List BLab) (h : rightA L = true) : L ≠ [] := by
  rintro rfl
  cases h
/-- The text of a set's labels, in whatever order, tells the set. -/
theorem parse_text (K L : List BLab) (h : rightA L = true) (hp : K.Perm L) : readB (textA K) = some K ∧ parseA (textA K) = some L := by
  have hne : K ≠ [] := by
    rintro rfl
    exact right_ne L h hp.nil_eq.symm
  have hr := read_text K hne (fun y hy => by
    obtain ⟨i, hi, rfl⟩ := List.mem_iff_getElem.1 (hp.mem_iff.1 hy)
    exact right_at L h i hi)
  refine ⟨hr, ?_⟩
  unfold parseA
  rw [hr]
  show (if rightA (sortA K) then some (sortA K) else none) = _
  rw [sort_rises K L hp (right_rises L h), if_pos h]
theorem textA_size : ∀ (L : List BLab), (∀ x ∈ L, x.1.size ≤ 1000 ∧ x.2.size ≤ 1000) → (textA L).length ≤ L.length * 4000
  | [], _ => Nat.le_refl _
  | [x], h => by
    rw [textA_one]
    have := h x (by simp)
    have h2 := esc_le x.2.data.toList
    rw [data_length] at h2
    unfold labT
    simp
    omega
  | x :: y :: l, h => by
    have ih := textA_size (y :: l) (fun z hz => h z (by simp only [List.mem_cons] at hz ⊢; exact .inr hz))
    rw [textA_two]
    have := h x (by simp)
    have h2 := esc_le x.2.data.toList
    rw [data_length] at h2
    have e : (labT x).data.toList.length ≤ 3100 := by
      unfold labT
      simp
      omega
    simp only [List.length_append, List.length_cons, List.length_nil] at ih ⊢
    omega
/-- One label of a set is a set. -/
theorem right_one (L : List BLab) (h : rightA L = true) (i : Nat) (hi : i < L.length) : rightA [L[i]] = true := by
  obtain ⟨h1, h2⟩ := right_at L h i hi
  rw [right_of [L[i]] (fun j hj => by
    obtain rfl : j = 0 := by simp at hj; exact hj
    exact ⟨h1, h2⟩) (fun j hj => by simp at hj)]
  rfl
theorem textA_turn (L : List BLab) (k : Nat) (h : k < L.length) : textA (L.take (k + 1)).reverse = textA [L[k]] ++ (if k = 0 then [] else [44] ++ textA (L.take k).reverse) := by
  rw [List.take_succ_eq_append_getElem h, List.reverse_append, List.reverse_singleton, List.singleton_append]
  by_cases h0 : k = 0
  · subst h0
    simp
  · rw [if_neg h0]
    cases hr : (L.take k).reverse with
    | nil =>
      have := congrArg List.length hr
      rw [List.length_reverse, List.length_take, List.length_nil] at this
      omega
    | cons y l => rw [textA_two, textA_one]
theorem textA_ne (L : List BLab) (h : L ≠ []) : textA L ≠ [] := by
  obtain ⟨x, L, rfl⟩ := List.exists_cons_of_ne_nil h
  have hx : (labT x).data.toList ≠ [] := by
    unfold labT
    simp
  cases L with
  | nil => rw [textA_one]; exact hx
  | cons y l => rw [textA_two]; intro h2; exact hx (List.append_eq_nil_iff.1 h2).1
end Go.Proofs.YtjhdgpboofcelaaGreat
