/- Package scope: patterns, plain. No program in sight. No condition. -/
import Derived.Test.YtjhdgpboofcelaaDoorB0
namespace Go.Proofs.YtjhdgpboofcelaaDoor
open Go.Lib

/-- The codes of a text's runes. -/
def codeR (c : List UInt8) : Nat := (decodeL c).1
def codes (l : List UInt8) : List Nat := (runes l).map codeR
theorem decode_take (l : List UInt8) (hne : l ≠ []) (hv : ¬ ((decodeL l).1 = 65533 ∧ (decodeL l).2 = 1)) : decodeL (l.take (decodeL l).2) = decodeL l := by
  have hw := decodeL_width l
  have hle := decodeL_le l hne
  have hl : 0 < l.length := List.length_pos_iff.2 hne
  have hsp : l.take (decodeL l).2 ++ l.drop (decodeL l).2 = l := List.take_append_drop _ _
  have h := decodeL_of_append (l.take (decodeL l).2) (l.drop (decodeL l).2) (by
    intro h
    have := congrArg List.length h
    rw [List.length_take, List.length_nil] at this
    omega) (by rw [hsp]; exact hv) (by rw [hsp, List.length_take]; omega)
  rw [hsp] at h
  exact h
theorem codes_nil : codes [] = [] := rfl
theorem codes_step (l : List UInt8) (hne : l ≠ []) (hv : ¬ ((decodeL l).1 = 65533 ∧ (decodeL l).2 = 1)) : codes l = (decodeL l).1 :: codes (l.drop (decodeL l).2) := by
  unfold codes
  rw [runes_step l hne, List.map_cons]
  unfold codeR
  rw [decode_take l hne hv]
theorem codes_append {a : List UInt8} (t : List UInt8) (h : validD a = true) : codes (a ++ t) = codes a ++ codes t := by
  unfold codes
  rw [runes_append t h, List.map_append]
theorem codes_length (l : List UInt8) : (codes l).length = (runes l).length := by simp [codes]
theorem codes_ascii (b : UInt8) (h : b.toNat < 128) : validD [b] = true ∧ codes [b] = [b.toNat] := by
  have hd : decodeL [b] = (b.toNat, 1) := decodeL_ascii b [] h
  refine ⟨?_, ?_⟩
  · rw [validD_step _ (by simp), hd, if_neg (by rintro ⟨h1, -⟩; simp at h1; omega)]
    rfl
  · rw [codes_step _ (by simp) (by rw [hd]; rintro ⟨h1, -⟩; simp at h1; omega), hd]
    rfl

/-- What a rune of a pattern stands for. -/
inductive Pc
  | many
  | one
  | self (r : Nat)
/-- A pattern's pieces; behind a sign (e) a rune stands for itself. -/
def pcsF : Bool → List Nat → List Pc × Bool
  | e, [] => ([], e)
  | e, r :: l => if e || (r != 42 && r != 63 && r != 126) then (.self r :: (pcsF false l).1, (pcsF false l).2)
    else if r == 126 then pcsF true l
    else ((if r == 42 then .many else .one) :: (pcsF false l).1, (pcsF false l).2)
theorem pcsF_append : ∀ (e : Bool) (a b : List Nat), pcsF e (a ++ b) = ((pcsF e a).1 ++ (pcsF (pcsF e a).2 b).1, (pcsF (pcsF e a).2 b).2)
  | e, [], b => rfl
  | e, r :: a, b => by
    rw [List.cons_append, pcsF, pcsF]
    split
    · rw [pcsF_append false a b]; rfl
    · split
      · exact pcsF_append true a b
      · rw [pcsF_append false a b]; rfl
/-- Do pieces stand for runes? -/
def matchP : List Pc → List Nat → Bool
  | [], v => v.isEmpty
  | .many :: ps, v => (List.range (v.length + 1)).any fun i => matchP ps (v.drop i)
  | .one :: ps, v => match v with | [] => false | _ :: v' => matchP ps v'
  | .self r :: ps, v => match v with | [] => false | c :: v' => c == r && matchP ps v'
theorem matchP_many (ps : List Pc) (v : List Nat) : matchP (.many :: ps) v = true ↔ ∃ i, i ≤ v.length ∧ matchP ps (v.drop i) = true := by
  rw [matchP, List.any_eq_true]
  constructor
  · rintro ⟨i, h1, h2⟩
    exact ⟨i, by have := List.mem_range.1 h1; omega, h2⟩
  · rintro ⟨i, h1, h2⟩
    exact ⟨i, List.mem_range.2 (by omega), h2⟩
/-- Pieces behind pieces: the text parts. -/
theorem matchP_append : ∀ (ps qs : List Pc) (v : List Nat), matchP (ps ++ qs) v = true ↔ ∃ i, i ≤ v.length ∧ matchP ps (v.take i) = true ∧ matchP qs (v.drop i) = true
  | [], qs, v => by
    constructor
    · intro h
      exact ⟨0, Nat.zero_le _, rfl, by simpa using h⟩
    · rintro ⟨i, h1, h2, h3⟩
      have h4 : v.take i = [] := by
        have : (v.take i).isEmpty = true := h2
        exact List.isEmpty_iff.1 this
      rw [List.nil_append]
      have h5 : i = 0 ∨ v = [] := by
        rcases List.take_eq_nil_iff.1 h4 with h | h
        · exact .inl h
        · exact .inr h
      rcases h5 with rfl | rfl
      · simpa using h3
      · simpa using h3
  | .many :: ps, qs, v => by
    rw [List.cons_append, matchP_many]
    constructor
    · rintro ⟨i, h1, h2⟩
      obtain ⟨j, h3, h4, h5⟩ := (matchP_append ps qs _).1 h2
      rw [List.length_drop] at h3
      refine ⟨i + j, by omega, (matchP_many _ _).2 ⟨i, by rw [List.length_take]; omega, ?_⟩, ?_⟩
      · rw [List.drop_take, show i + j - i = j by omega]; exact h4
      · rw [List.drop_drop] at h5; exact h5
    · rintro ⟨k, h1, h2, h3⟩
      obtain ⟨i, h4, h5⟩ := (matchP_many _ _).1 h2
      rw [List.length_take] at h4
      refine ⟨i, by omega, (matchP_append ps qs _).2 ⟨k - i, by rw [List.length_drop]; omega, ?_, ?_⟩⟩
      · rw [List.drop_take] at h5; exact h5
      · rw [List.drop_drop, show i + (k - i) = k by omega]; exact h3
  | .one :: ps, qs, v => by
    rw [List.cons_append]
    cases v with
    | nil =>
      constructor
      · intro h; cases h
      · rintro ⟨i, h1, h2, -⟩
        simp [matchP] at h2
    | cons c v =>
      show matchP (ps ++ qs) v = true ↔ _
      constructor
      · intro h
        obtain ⟨j, h3, h4, h5⟩ := (matchP_append ps qs v).1 h
        exact ⟨j + 1, by simp; omega, h4, h5⟩
      · rintro ⟨i, h1, h2, h3⟩
        cases i with
        | zero => simp [matchP] at h2
        | succ j => exact (matchP_append ps qs v).2 ⟨j, by simp at h1; omega, h2, h3⟩
  | .self r :: ps, qs, v => by
    rw [List.cons_append]
    cases v with
    | nil =>
      constructor
      · intro h; cases h
      · rintro ⟨i, h1, h2, -⟩
        simp [matchP] at h2
    | cons c v =>
      show (c == r && matchP (ps ++ qs) v) = true ↔ _
      rw [Bool.and_eq_true]
      constructor
      · rintro ⟨h0, h⟩
        obtain ⟨j, h3, h4, h5⟩ := (matchP_append ps qs v).1 h
        refine ⟨j + 1, by simp; omega, ?_, h5⟩
        show (c == r && matchP ps (v.take j)) = true
        rw [h0, h4]; rfl
      · rintro ⟨i, h1, h2, h3⟩
        cases i with
        | zero => simp [matchP] at h2
        | succ j =>
          have h2' : (c == r && matchP ps (v.take j)) = true := h2
          rw [Bool.and_eq_true] at h2'
          exact ⟨h2'.1, (matchP_append ps qs v).2 ⟨j, by simp at h1; omega, h2'.2, h3⟩⟩
theorem match_many (u : List Nat) : matchP [.many] u = true := (matchP_many _ _).2 ⟨u.length, Nat.le_refl _, by simp [matchP]⟩
theorem match_one (u : List Nat) : matchP [.one] u = true ↔ u.length = 1 := by
  cases u with
  | nil => simp [matchP]
  | cons c u => simp [matchP]
theorem match_self (r : Nat) (u : List Nat) : matchP [.self r] u = true ↔ u = [r] := by
  cases u with
  | nil => simp [matchP]
  | cons c u => simp [matchP]
/-- The places that pieces have come to: how many runes are stood for. -/
def atP (ps : List Pc) (v : List Nat) (k : Nat) : Bool := matchP ps (v.take k)
theorem atP_nil (v : List Nat) (k : Nat) (hk : k ≤ v.length) : atP [] v k = decide (k = 0) := by
  unfold atP
  cases k with
  | zero => simp [matchP]
  | succ k =>
    cases v with
    | nil => simp at hk
    | cons c v => simp [matchP]
theorem atP_many (ps : List Pc) (v : List Nat) (k : Nat) (hk : k ≤ v.length) : atP (ps ++ [.many]) v k = (atP ps v k || (decide (0 < k) && atP (ps ++ [.many]) v (k - 1))) := by
  rw [Bool.eq_iff_iff, Bool.or_eq_true, Bool.and_eq_true, decide_eq_true_eq]
  unfold atP
  rw [matchP_append, matchP_append]
  constructor
  · rintro ⟨i, h1, h2, -⟩
    rw [List.length_take] at h1
    rw [List.take_take] at h2
    by_cases hi : i = k
    · left
      rw [hi, Nat.min_self] at h2
      exact h2
    · refine .inr ⟨by omega, i, by rw [List.length_take]; omega, ?_, match_many _⟩
      rw [List.take_take, show min i (k - 1) = i by omega]
      rw [show min i k = i by omega] at h2
      exact h2
  · rintro (h | ⟨h0, i, h1, h2, -⟩)
    · exact ⟨k, by rw [List.length_take]; omega, by rw [List.take_take, Nat.min_self]; exact h, match_many _⟩
    · rw [List.length_take] at h1
      rw [List.take_take] at h2
      refine ⟨i, by rw [List.length_take]; omega, ?_, match_many _⟩
      rw [List.take_take, show min i k = min i (k - 1) by omega]
      exact h2
theorem atP_one (ps : List Pc) (v : List Nat) (k : Nat) (hk : k ≤ v.length) : atP (ps ++ [.one]) v k = (decide (0 < k) && atP ps v (k - 1)) := by
  rw [Bool.eq_iff_iff, Bool.and_eq_true, decide_eq_true_eq]
  unfold atP
  rw [matchP_append]
  constructor
  · rintro ⟨i, h1, h2, h3⟩
    rw [match_one, List.length_drop, List.length_take] at h3
    rw [List.length_take] at h1
    rw [List.take_take, show min i k = k - 1 by omega] at h2
    exact ⟨by omega, h2⟩
  · rintro ⟨h0, h⟩
    refine ⟨k - 1, by rw [List.length_take]; omega, by rw [List.take_take, show min (k - 1) k = k - 1 by omega]; exact h, ?_⟩
    rw [match_one, List.length_drop, List.length_take]
    omega
theorem atP_self (ps : List Pc) (r : Nat) (v : List Nat) (k : Nat) (hk : k ≤ v.length) : atP (ps ++ [.self r]) v k = (decide (0 < k) && decide (v.getD (k - 1) 0 = r) && atP ps v (k - 1)) := by
  rw [Bool.eq_iff_iff, Bool.and_eq_true, Bool.and_eq_true, decide_eq_true_eq, decide_eq_true_eq]
  unfold atP
  rw [matchP_append]
  have hd : 0 < k → (v.take k).drop (k - 1) = [v.getD (k - 1) 0] := fun h0 => by
    have e1 : v.getD (k - 1) 0 = v[k - 1]'(by omega) := by simp [List.getD, List.getElem?_eq_getElem (show k - 1 < v.length by omega)]
    have e2 : v.drop (k - 1) = v[k - 1]'(by omega) :: v.drop (k - 1 + 1) := List.drop_eq_getElem_cons (by omega)
    rw [List.drop_take, show k - (k - 1) = 1 by omega, e1, e2]
    rfl
  constructor
  · rintro ⟨i, h1, h2, h3⟩
    rw [match_self] at h3
    have hl := congrArg List.length h3
    rw [List.length_drop, List.length_take, List.length_singleton] at hl
    rw [List.length_take] at h1
    have hi : i = k - 1 := by omega
    subst hi
    rw [hd (by omega)] at h3
    rw [List.take_take, show min (k - 1) k = k - 1 by omega] at h2
    exact ⟨⟨by omega, (List.cons.inj h3).1⟩, h2⟩
  · rintro ⟨⟨h0, h⟩, h2⟩
    refine ⟨k - 1, by rw [List.length_take]; omega, by rw [List.take_take, show min (k - 1) k = k - 1 by omega]; exact h2, ?_⟩
    rw [match_self, hd h0, h]
theorem atP_all (ps : List Pc) (v : List Nat) : atP ps v v.length = matchP ps v := by
  unfold atP
  rw [List.take_length]
end Go.Proofs.YtjhdgpboofcelaaDoor
