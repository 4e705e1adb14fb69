/- Runes of a text, plain: how a text parts into runes; two texts one behind the other. No program in sight. No condition. -/
import Derived.Lib.ValidLaws
import Derived.Lib.MapLaws
import Derived.Lib.SpaceUEq
namespace Go.Proofs.YtjhdgpboofcelaaDoor
open Go.Lib

/-- A text's runes, each a text. -/
def runesF : Nat → List UInt8 → List (List UInt8)
  | 0, _ => []
  | n + 1, l => if l = [] then [] else l.take (decodeL l).2 :: runesF n (l.drop (decodeL l).2)
def runes (l : List UInt8) : List (List UInt8) := runesF l.length l
theorem runesF_fuel : ∀ (n m : Nat) (l : List UInt8), l.length ≤ n → l.length ≤ m → runesF n l = runesF m l
  | 0, m, l, hn, _ => by
    have : l = [] := List.eq_nil_of_length_eq_zero (by omega)
    subst this
    cases m <;> simp [runesF]
  | n + 1, 0, l, _, hm => by
    have : l = [] := List.eq_nil_of_length_eq_zero (by omega)
    subst this
    simp [runesF]
  | n + 1, m + 1, l, hn, hm => by
    unfold runesF
    by_cases hne : l = []
    · simp [hne]
    · have hw := decodeL_width l
      have hl : 0 < l.length := List.length_pos_iff.2 hne
      rw [if_neg hne, if_neg hne, runesF_fuel n m (l.drop (decodeL l).2) (by rw [List.length_drop]; omega) (by rw [List.length_drop]; omega)]
theorem runes_nil : runes [] = [] := rfl
theorem runes_step (l : List UInt8) (hne : l ≠ []) : runes l = l.take (decodeL l).2 :: runes (l.drop (decodeL l).2) := by
  have hl : 0 < l.length := List.length_pos_iff.2 hne
  have hw := decodeL_width l
  obtain ⟨n, hn⟩ : ∃ n, l.length = n + 1 := ⟨l.length - 1, by omega⟩
  unfold runes
  rw [hn]
  show (if l = [] then [] else _) = _
  rw [if_neg hne, runesF_fuel n (l.drop (decodeL l).2).length _ (by rw [List.length_drop]; omega) (Nat.le_refl _)]
theorem runes_cons (b : UInt8) (t : List UInt8) (h : b.toNat < 128) : runes (b :: t) = [b] :: runes t := by
  rw [runes_step _ (by simp), decodeL_ascii b t h]
  simp
theorem runes_length : ∀ (n : Nat) (l : List UInt8), l.length ≤ n → (runes l).length ≤ l.length
  | 0, l, h => by
    have : l = [] := List.eq_nil_of_length_eq_zero (by omega)
    subst this; simp [runes_nil]
  | n + 1, l, h => by
    by_cases hne : l = []
    · subst hne; simp [runes_nil]
    · have hw := decodeL_width l
      have hl : 0 < l.length := List.length_pos_iff.2 hne
      rw [runes_step l hne, List.length_cons]
      have := runes_length n (l.drop (decodeL l).2) (by rw [List.length_drop]; omega)
      rw [List.length_drop] at this
      omega
theorem runes_le (l : List UInt8) : (runes l).length ≤ l.length := runes_length _ l (Nat.le_refl _)
theorem runes_flat : ∀ (n : Nat) (l : List UInt8), l.length ≤ n → (runes l).flatten = l
  | 0, l, h => by
    have : l = [] := List.eq_nil_of_length_eq_zero (by omega)
    subst this; simp [runes_nil]
  | n + 1, l, h => by
    by_cases hne : l = []
    · subst hne; simp [runes_nil]
    · have hw := decodeL_width l
      have hl : 0 < l.length := List.length_pos_iff.2 hne
      rw [runes_step l hne, List.flatten_cons, runes_flat n _ (by rw [List.length_drop]; omega), List.take_append_drop]
/-- Together a text's runes are the text. -/
theorem flat_runes (l : List UInt8) : (runes l).flatten = l := runes_flat _ l (Nat.le_refl _)

theorem getD_append_l (a t : List UInt8) (k : Nat) (h : k < a.length) : (a ++ t).getD k 0 = a.getD k 0 := by
  simp [List.getD, List.getElem?_append_left h]
theorem getD_append_r (a t : List UInt8) (k : Nat) : (a ++ t).getD (a.length + k) 0 = t.getD k 0 := by
  simp [List.getD, List.getElem?_append_right]
set_option maxRecDepth 100000 in
set_option maxHeartbeats 2000000 in
/-- A right rune is the same wherever its bytes are. -/
theorem decodeN_same (n n' b0 b1 b2 b3 c1 c2 c3 : Nat) (hv : ¬ ((decodeN n b0 b1 b2 b3).1 = 65533 ∧ (decodeN n b0 b1 b2 b3).2 = 1)) (hk : (decodeN n b0 b1 b2 b3).2 ≤ n')
    (e1 : 1 < (decodeN n b0 b1 b2 b3).2 → b1 = c1) (e2 : 2 < (decodeN n b0 b1 b2 b3).2 → b2 = c2) (e3 : 3 < (decodeN n b0 b1 b2 b3).2 → b3 = c3) : decodeN n' b0 c1 c2 c3 = decodeN n b0 b1 b2 b3 := by
  rcases decodeN_shape n b0 b1 b2 b3 with ⟨c, e⟩ | ⟨k1, k2, k3, cv, e⟩ | ⟨k1, k2, k3, k4, cv, cs, e⟩ | ⟨k1, k2, k3, k4, k5, cv, cw, e⟩ | e
  · rw [e, decodeN_ascii _ _ _ _ _ c]
  · rw [e] at e1 e2 e3 hk ⊢
    simp only at e1 e2 e3 hk
    obtain rfl := e1 (by omega)
    unfold decodeN
    repeat' split
    all_goals first | rfl | (exfalso; omega)
  · rw [e] at e1 e2 e3 hk ⊢
    simp only at e1 e2 e3 hk
    obtain rfl := e1 (by omega)
    obtain rfl := e2 (by omega)
    unfold decodeN
    repeat' split
    all_goals first | rfl | (exfalso; omega)
  · rw [e] at e1 e2 e3 hk ⊢
    simp only at e1 e2 e3 hk
    obtain rfl := e1 (by omega)
    obtain rfl := e2 (by omega)
    obtain rfl := e3 (by omega)
    unfold decodeN
    repeat' split
    all_goals first | rfl | (exfalso; omega)
  · rw [e] at hv
    simp at hv
/-- A right rune stays when bytes come behind it. -/
theorem decodeL_append (a t : List UInt8) (hne : a ≠ []) (hv : ¬ ((decodeL a).1 = 65533 ∧ (decodeL a).2 = 1)) : decodeL (a ++ t) = decodeL a := by
  have hl : 0 < a.length := List.length_pos_iff.2 hne
  have hle := decodeL_le a hne
  rw [decodeL_N] at hv hle
  rw [decodeL_N, decodeL_N, getD_append_l a t 0 hl, List.length_append]
  exact decodeN_same _ _ _ _ _ _ _ _ _ hv (by omega) (fun h => by rw [getD_append_l a t 1 (by omega)]) (fun h => by rw [getD_append_l a t 2 (by omega)]) (fun h => by rw [getD_append_l a t 3 (by omega)])
/-- .. and when bytes go that are not of it. -/
theorem decodeL_of_append (a t : List UInt8) (hne : a ≠ []) (hv : ¬ ((decodeL (a ++ t)).1 = 65533 ∧ (decodeL (a ++ t)).2 = 1)) (hk : (decodeL (a ++ t)).2 ≤ a.length) : decodeL a = decodeL (a ++ t) := by
  have hl : 0 < a.length := List.length_pos_iff.2 hne
  rw [decodeL_N] at hv hk
  rw [decodeL_N, decodeL_N, ← getD_append_l a t 0 hl]
  exact decodeN_same _ _ _ _ _ _ _ _ _ hv hk (fun h => by rw [getD_append_l a t 1 (by omega)]) (fun h => by rw [getD_append_l a t 2 (by omega)]) (fun h => by rw [getD_append_l a t 3 (by omega)])

theorem valid_append : ∀ (n : Nat) (a t : List UInt8), a.length ≤ n → validD a = true → validD (a ++ t) = validD t ∧ runes (a ++ t) = runes a ++ runes t
  | 0, a, t, h, _ => by
    have : a = [] := List.eq_nil_of_length_eq_zero (by omega)
    subst this; simp [runes_nil]
  | n + 1, a, t, h, hv => by
    by_cases hne : a = []
    · subst hne; simp [runes_nil]
    · have hl : 0 < a.length := List.length_pos_iff.2 hne
      have hw := decodeL_width a
      have hle := decodeL_le a hne
      rw [validD_step a hne] at hv
      by_cases hb : (decodeL a).1 = 65533 ∧ (decodeL a).2 = 1
      · rw [if_pos hb] at hv; cases hv
      · rw [if_neg hb] at hv
        have hd := decodeL_append a t hne hb
        have hne2 : a ++ t ≠ [] := by simp [hne]
        obtain ⟨i1, i2⟩ := valid_append n (a.drop (decodeL a).2) t (by rw [List.length_drop]; omega) hv
        rw [validD_step _ hne2, runes_step _ hne2, runes_step a hne, hd, if_neg hb, List.drop_append_of_le_length hle, List.take_append_of_le_length hle, i1, i2]
        exact ⟨rfl, rfl⟩
/-- A right text ahead: the runes are those of both. -/
theorem validD_append {a : List UInt8} (t : List UInt8) (h : validD a = true) : validD (a ++ t) = validD t := (valid_append _ a t (Nat.le_refl _) h).1
theorem runes_append {a : List UInt8} (t : List UInt8) (h : validD a = true) : runes (a ++ t) = runes a ++ runes t := (valid_append _ a t (Nat.le_refl _) h).2

theorem valid_left : ∀ (n : Nat) (a t : List UInt8), a.length ≤ n → validD (a ++ t) = true → validD t = true → validD a = true
  | 0, a, t, h, _, _ => by
    have : a = [] := List.eq_nil_of_length_eq_zero (by omega)
    subst this; rfl
  | n + 1, a, t, h, hv, ht => by
    by_cases hne : a = []
    · subst hne; rfl
    · have hl : 0 < a.length := List.length_pos_iff.2 hne
      have hw := decodeL_width a
      have hne2 : a ++ t ≠ [] := by simp [hne]
      rw [validD_step _ hne2] at hv
      by_cases hb : (decodeL (a ++ t)).1 = 65533 ∧ (decodeL (a ++ t)).2 = 1
      · rw [if_pos hb] at hv; cases hv
      · rw [if_neg hb] at hv
        by_cases hk : (decodeL (a ++ t)).2 ≤ a.length
        · have hd := decodeL_of_append a t hne hb hk
          rw [← hd] at hb hv hk
          rw [validD_step a hne, if_neg hb]
          rw [List.drop_append_of_le_length hk] at hv
          exact valid_left n _ t (by rw [List.length_drop]; omega) hv ht
        · exfalso
          have hlen := decodeL_le _ hne2
          rw [List.length_append] at hlen
          have htne : t ≠ [] := by
            rintro rfl
            simp at hlen hk
            omega
          have hc := decodeN_conts (a ++ t).length ((a ++ t).getD 0 0).toNat ((a ++ t).getD 1 0).toNat ((a ++ t).getD 2 0).toNat ((a ++ t).getD 3 0).toNat
          rw [← decodeL_N] at hc
          have g0 : (t.getD 0 0) = (a ++ t).getD a.length 0 := (getD_append_r a t 0).symm
          have g1 : (t.getD 0 0).toNat / 64 = 2 := by
            rw [g0]
            obtain ⟨c1, c2, c3, c4⟩ := hc
            have : a.length = 1 ∨ a.length = 2 ∨ a.length = 3 := by omega
            rcases this with e | e | e <;> rw [e]
            · exact (c1 (by omega)).1
            · exact (c2 (by omega)).1
            · exact (c3 (by omega)).1
          rw [validD_step t htne, decodeL_N, decodeN_cont _ _ _ _ _ g1] at ht
          simp at ht
/-- A wrong text is wrong whatever right one comes behind it. -/
theorem validD_left {a t : List UInt8} (h : validD (a ++ t) = true) (ht : validD t = true) : validD a = true := valid_left _ a t (Nat.le_refl _) h ht

/-- A right rune: one byte below 128, or bytes from 128 on. -/
theorem rune_bytes (l : List UInt8) (hne : l ≠ []) (hv : ¬ ((decodeL l).1 = 65533 ∧ (decodeL l).2 = 1)) :
    ((l.getD 0 0).toNat < 128 ∧ decodeL l = ((l.getD 0 0).toNat, 1) ∧ l.take 1 = [l.getD 0 0]) ∨
    (128 ≤ (decodeL l).1 ∧ 2 ≤ (decodeL l).2 ∧ ∀ b ∈ l.take (decodeL l).2, 128 ≤ b.toNat) := by
  have hl : 0 < l.length := List.length_pos_iff.2 hne
  rw [decodeL_N] at hv ⊢
  rcases decodeN_shape l.length (l.getD 0 0).toNat (l.getD 1 0).toNat (l.getD 2 0).toNat (l.getD 3 0).toNat with ⟨c, e⟩ | ⟨k1, k2, k3, cv, e⟩ | ⟨k1, k2, k3, k4, cv, cs, e⟩ | ⟨k1, k2, k3, k4, k5, cv, cw, e⟩ | e
  · exact .inl ⟨c, e, takeA l hl⟩
  · refine .inr ?_
    rw [e]
    refine ⟨by simp only; omega, by simp, fun b hb => ?_⟩
    rw [takeB l k2] at hb
    simp only [List.mem_cons, List.not_mem_nil, or_false] at hb
    rcases hb with rfl | rfl <;> omega
  · refine .inr ?_
    rw [e]
    refine ⟨by simp only; omega, by simp, fun b hb => ?_⟩
    rw [takeC l k2] at hb
    simp only [List.mem_cons, List.not_mem_nil, or_false] at hb
    rcases hb with rfl | rfl | rfl <;> omega
  · refine .inr ?_
    rw [e]
    refine ⟨by simp only; omega, by simp, fun b hb => ?_⟩
    rw [takeD l k2] at hb
    simp only [List.mem_cons, List.not_mem_nil, or_false] at hb
    rcases hb with rfl | rfl | rfl | rfl <;> omega
  · rw [e] at hv; simp at hv
end Go.Proofs.YtjhdgpboofcelaaDoor
