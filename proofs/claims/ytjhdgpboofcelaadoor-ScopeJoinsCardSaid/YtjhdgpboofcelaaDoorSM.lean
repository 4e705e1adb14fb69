/- Layer 5, plain: a pattern, a star and another one. No condition. -/
import Derived.Test.YtjhdgpboofcelaaDoorSD
namespace Go.Proofs.YtjhdgpboofcelaaDoor
open Go.RowKit
open Go.Lib (decodeL validD)

theorem decode_take_valid (l : List UInt8) (hne : l ≠ []) (hv : validD l = true) : validD (l.drop (decodeL l).2) = true ∧ codes l = (decodeL l).1 :: codes (l.drop (decodeL l).2) := by
  rw [Lib.validD_step l hne] at hv
  by_cases hb : (decodeL l).1 = 65533 ∧ (decodeL l).2 = 1
  · rw [if_pos hb] at hv
    cases hv
  · rw [if_neg hb] at hv
    exact ⟨hv, codes_step l hne hb⟩
theorem split_runes : ∀ (n : Nat) (l : List UInt8) (r : Nat), l.length ≤ n → validD l = true → r ≤ (codes l).length → ∃ a t, l = a ++ t ∧ validD a = true ∧ validD t = true ∧ (codes a).length = r
  | _, l, 0, _, hv, _ => ⟨[], l, rfl, rfl, hv, rfl⟩
  | 0, l, r + 1, hl, _, hr => by
    obtain rfl : l = [] := List.eq_nil_of_length_eq_zero (by omega)
    simp [codes_nil] at hr
  | n + 1, l, r + 1, hl, hv, hr => by
    by_cases hne : l = []
    · subst hne
      simp [codes_nil] at hr
    · obtain ⟨h1, h2⟩ := decode_take_valid l hne hv
      have hw := Lib.decodeL_width l
      rw [h2, List.length_cons] at hr
      obtain ⟨a, t, e1, e2, e3, e4⟩ := split_runes n (l.drop (decodeL l).2) r (by rw [List.length_drop]; omega) h1 (by omega)
      have e5 : l = l.take (decodeL l).2 ++ l.drop (decodeL l).2 := (List.take_append_drop _ _).symm
      have h3 : validD (l.take (decodeL l).2) = true := validD_left (t := l.drop (decodeL l).2) (by rw [List.take_append_drop]; exact hv) h1
      have h4 : (codes (l.take (decodeL l).2)).length = 1 := by
        have h5 := codes_append (l.drop (decodeL l).2) h3
        rw [List.take_append_drop, h2] at h5
        have := congrArg List.length h5
        simp at this
        omega
      refine ⟨l.take (decodeL l).2 ++ a, t, ?_, ?_, e3, ?_⟩
      · rw [List.append_assoc, ← e1, List.take_append_drop]
      · rw [validD_append a h3]; exact e2
      · rw [codes_append a h3, List.length_append, h4, e4]; omega
theorem pcsA_parts {l : List UInt8} {ps : List Pc} (h : pcsA l = some ps) : validD l = true ∧ pcsF false (codes l) = (ps, false) := by
  unfold pcsA at h
  by_cases hc : (valueB l && !(pcsOf l).2) = true
  · rw [if_pos hc] at h
    simp only [Bool.and_eq_true, Bool.not_eq_true'] at hc
    obtain ⟨h1, h2⟩ := hc
    unfold valueB at h1
    simp only [Bool.and_eq_true] at h1
    refine ⟨h1.1.1, ?_⟩
    have e : pcsF false (codes l) = pcsOf l := rfl
    rw [e]
    cases h
    rw [← h2]
  · rw [if_neg hc] at h
    cases h
theorem fitsA_of {p v : List UInt8} {ps : List Pc} (hp : pcsA p = some ps) : fitsA p v = (validD v && matchP ps (codes v)) := by
  unfold fitsA
  rw [hp]
theorem pcsA_join {p q : List UInt8} {P Q A : List Pc} (hp : pcsA p = some P) (hq : pcsA q = some Q) (ha : pcsA (p ++ 42 :: q) = some A) : A = P ++ ([.many] ++ Q) := by
  obtain ⟨p1, p2⟩ := pcsA_parts hp
  obtain ⟨q1, q2⟩ := pcsA_parts hq
  obtain ⟨-, a2⟩ := pcsA_parts ha
  have h42 := codes_ascii 42 (by decide)
  have e : codes (p ++ 42 :: q) = codes p ++ (42 :: codes q) := by
    rw [codes_append _ p1, show (42 : UInt8) :: q = [42] ++ q from rfl, codes_append q h42.1, h42.2]
    rfl
  rw [e, pcsF_append, p2] at a2
  simp only at a2
  rw [pcsF_many, q2] at a2
  simp only [Prod.mk.injEq] at a2
  rw [← a2.1]
  rfl
theorem fits_join {p q v : List UInt8} {P Q A : List Pc} (hp : pcsA p = some P) (hq : pcsA q = some Q) (ha : pcsA (p ++ 42 :: q) = some A) (hv : validD v = true) :
    fitsA (p ++ 42 :: q) v = true ↔ ∃ i k, i ≤ k ∧ k ≤ v.length ∧ fitsA p (v.take i) = true ∧ fitsA q (v.drop k) = true := by
  rw [fitsA_of ha, hv, Bool.true_and, pcsA_join hp hq ha, matchP_append]
  constructor
  · rintro ⟨i, hi, h1, h2⟩
    rw [matchP_append] at h2
    obtain ⟨j, hj, -, h3⟩ := h2
    obtain ⟨a, t, rfl, e2, e3, e4⟩ := split_runes _ v i (Nat.le_refl _) hv hi
    rw [codes_append t e2] at h1 h3 hj
    rw [List.take_left' e4] at h1
    rw [List.drop_left' e4] at h3 hj
    obtain ⟨m, c, rfl, f2, f3, f4⟩ := split_runes _ t j (Nat.le_refl _) e3 hj
    rw [codes_append c f2, List.drop_left' f4] at h3
    refine ⟨a.length, a.length + m.length, by omega, by simp, ?_, ?_⟩
    · rw [List.take_left' rfl, fitsA_of hp, e2, h1]; try rfl
    · rw [← List.append_assoc, List.drop_left' (by simp), fitsA_of hq, f3, h3]; try rfl
  · rintro ⟨i, k, hik, hk, h1, h2⟩
    rw [fitsA_of hp, Bool.and_eq_true] at h1
    rw [fitsA_of hq, Bool.and_eq_true] at h2
    obtain ⟨m, hm⟩ : ∃ m, (v.drop i).take (k - i) = m := ⟨_, rfl⟩
    have e1 : v = v.take i ++ v.drop i := (List.take_append_drop _ _).symm
    have e2 : v.drop i = m ++ v.drop k := by
      rw [← hm, show v.drop k = (v.drop i).drop (k - i) by rw [List.drop_drop]; congr 1; omega, List.take_append_drop]
    generalize v.take i = a at *
    generalize v.drop k = c at *
    generalize v.drop i = t at *
    subst e2
    subst e1
    have hmc : validD (m ++ c) = true := by rw [← validD_append (m ++ c) h1.1]; exact hv
    have hmv : validD m = true := validD_left hmc h2.1
    rw [codes_append _ h1.1]
    refine ⟨(codes a).length, by simp, by rw [List.take_left' rfl]; exact h1.2, ?_⟩
    rw [List.drop_left' rfl, matchP_append, codes_append _ hmv]
    exact ⟨(codes m).length, by simp, match_many _, by rw [List.drop_left' rfl]; exact h2.2⟩
/-- From a place on, does a rest fit? -/
def inB (q v : List UInt8) (i k : Nat) : Bool := (List.range k).any fun k' => decide (i ≤ k') && fitsA q (v.drop k')
def hitB (p q v : List UInt8) (i : Nat) : Bool := fitsA p (v.take i) && inB q v i (v.length + 1)
def upB (p q v : List UInt8) (i : Nat) : Bool := (List.range i).any (hitB p q v)
theorem inB_succ (q v : List UInt8) (i k : Nat) (h : i ≤ k) : inB q v i (k + 1) = (inB q v i k || fitsA q (v.drop k)) := by
  unfold inB
  rw [List.range_succ, List.any_append]
  simp [h]
theorem inB_start (q v : List UInt8) (i : Nat) : inB q v i i = false := by
  unfold inB
  rw [List.any_eq_false]
  intro k hk
  have := List.mem_range.1 hk
  rw [decide_eq_false (by omega)]
  simp
theorem upB_succ (p q v : List UInt8) (i : Nat) : upB p q v (i + 1) = (upB p q v i || hitB p q v i) := by
  unfold upB
  rw [List.range_succ, List.any_append]
  simp
theorem upB_all (p q v : List UInt8) (b : Bool) (h : b = true ↔ ∃ i k, i ≤ k ∧ k ≤ v.length ∧ fitsA p (v.take i) = true ∧ fitsA q (v.drop k) = true) : upB p q v (v.length + 1) = b := by
  rw [Bool.eq_iff_iff, h]
  unfold upB hitB inB
  simp only [List.any_eq_true, List.mem_range, Bool.and_eq_true, decide_eq_true_eq]
  constructor
  · rintro ⟨i, h1, h2, k, h3, h4, h5⟩
    exact ⟨i, k, h4, by omega, h2, h5⟩
  · rintro ⟨i, k, h1, h2, h3, h4⟩
    exact ⟨i, by omega, h3, k, by omega, h1, h4⟩
theorem fitsA_invalid (p v : List UInt8) (h : validD v = false) : fitsA p v = false := by
  unfold fitsA
  split
  · rfl
  · rw [h]; rfl
theorem headData (s : ByteArray) (i : Nat) : (s.extract 0 i).data.toList = s.data.toList.take i := by
  rw [Lib.extract_data]
  simp
theorem tailData (s : ByteArray) (i : Nat) : (s.extract i s.size).data.toList = s.data.toList.drop i := extract_tail s i
end Go.Proofs.YtjhdgpboofcelaaDoor
