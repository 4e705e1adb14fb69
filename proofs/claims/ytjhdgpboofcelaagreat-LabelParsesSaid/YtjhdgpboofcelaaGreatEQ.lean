/- The references' reader is the program's: plain. -/
import Derived.Test.YtjhdgpboofcelaaGreatEI
import Derived.Test.YtjhdgpboofcelaaGreatEO
namespace Go.Proofs.YtjhdgpboofcelaaGreat
open Go.RowKit
open Go.Lib (decodeL validD)

theorem step_high (r : Rd) (c : List UInt8) (hne : c ≠ []) (hc : ∀ b ∈ c, 128 ≤ b.toNat) : r.step ⟨c.toArray⟩ = if r.inVal then { r with value := r.value ++ ⟨c.toArray⟩, esc := false } else { r with name := r.name ++ ⟨c.toArray⟩ } := by
  have g : ∀ b : UInt8, b.toNat < 128 → (c == [b]) = false := fun b hb => beq_eq_false_iff_ne.2 fun h => by
    have := hc b (by rw [h]; simp)
    omega
  unfold Rd.step
  simp only [keyIs_mk, eqIs_mk, g 44 (by decide), g 92 (by decide), g 61 (by decide), Bool.false_and, Bool.false_eq_true, if_false]
theorem one_mk (s : ByteArray) (b : UInt8) (c : List UInt8) : s ++ (⟨[b].toArray⟩ : ByteArray) ++ ⟨c.toArray⟩ = s ++ ⟨(b :: c).toArray⟩ := append_mk s [b] c
theorem step_bytes : ∀ (c : List UInt8) (r : Rd), c ≠ [] → (∀ b ∈ c, 128 ≤ b.toNat) → r.step ⟨c.toArray⟩ = rdFold r (c.map fun b => [b])
  | [], _, h, _ => absurd rfl h
  | [b], r, _, _ => rfl
  | b :: d :: c, r, _, hc => by
    show _ = rdFold (r.step ⟨[b].toArray⟩) ((d :: c).map fun b => [b])
    have hd : ∀ x ∈ d :: c, 128 ≤ x.toNat := fun x hx => hc x (List.mem_cons_of_mem _ hx)
    rw [← step_bytes (d :: c) _ (by simp) hd, step_high r _ (by simp) hc, step_high r [b] (by simp) (fun x hx => hc x (by simp at hx; simp [hx])), step_high _ _ (by simp) hd]
    cases r.inVal
    · simp only [Bool.false_eq_true, if_false, one_mk]
    · simp only [if_true, one_mk]
/-- Rune by rune is byte by byte. -/
theorem fold_bytes : ∀ (n : Nat) (l : List UInt8) (r : Rd), l.length ≤ n → validD l = true → rdFold r (runes l) = rdFold r (l.map fun b => [b])
  | 0, l, r, hl, _ => by
    obtain rfl : l = [] := List.eq_nil_of_length_eq_zero (by omega)
    rfl
  | n + 1, l, r, hl, hv => by
    by_cases hne : l = []
    · subst hne; rfl
    rw [Lib.validD_step l hne] at hv
    by_cases hb : (decodeL l).1 = 65533 ∧ (decodeL l).2 = 1
    · rw [if_pos hb] at hv; cases hv
    rw [if_neg hb] at hv
    have hw := Lib.decodeL_width l
    have ih := fold_bytes n (l.drop (decodeL l).2) (r.step ⟨(l.take (decodeL l).2).toArray⟩) (by rw [List.length_drop]; omega) hv
    rw [runes_step l hne]
    show rdFold (r.step ⟨(l.take (decodeL l).2).toArray⟩) (runes (l.drop (decodeL l).2)) = _
    rw [ih]
    have hsp : l.map (fun b => [b]) = (l.take (decodeL l).2).map (fun b => [b]) ++ (l.drop (decodeL l).2).map fun b => [b] := by rw [← List.map_append, List.take_append_drop]
    rw [hsp, rdFold_append]
    rcases rune_bytes l hne hb with ⟨h1, h2, h3⟩ | ⟨h1, h2, h3⟩
    · rw [h2]
      simp only
      rw [h3]
      rfl
    · rw [step_bytes _ r (by
        intro h
        have := congrArg List.length h
        have hl0 : 0 < l.length := List.length_pos_iff.2 hne
        rw [List.length_take, List.length_nil] at this
        omega) h3]

/-- The value that a text begins with, and what is behind it. -/
def valR : List UInt8 → Option (List UInt8 × List UInt8)
  | [] => some ([], [])
  | c :: l => if c = 44 then some ([], c :: l) else if c = 92 then (match l with | [] => none | d :: l' => (valR l').map fun x => (d :: x.1, x.2)) else (valR l).map fun x => (c :: x.1, x.2)
/-- The label that a text begins with, and what is behind it. -/
def oneR : List UInt8 → Option ((List UInt8 × List UInt8) × List UInt8)
  | [] => none
  | c :: l => if c = 61 then (valR l).map fun x => (([], x.1), x.2) else (oneR l).map fun x => ((c :: x.1.1, x.1.2), x.2)
theorem valR_rest : ∀ (n : Nat) (l : List UInt8) (v m : List UInt8), l.length ≤ n → valR l = some (v, m) → m.length ≤ l.length ∧ (m = [] ∨ ∃ t, m = 44 :: t)
  | 0, l, v, m, hl, h => by
    obtain rfl : l = [] := List.eq_nil_of_length_eq_zero (by omega)
    simp only [valR, Option.some.injEq, Prod.mk.injEq] at h
    obtain ⟨-, rfl⟩ := h
    exact ⟨Nat.le_refl _, .inl rfl⟩
  | n + 1, [], v, m, hl, h => by
    simp only [valR, Option.some.injEq, Prod.mk.injEq] at h
    obtain ⟨-, rfl⟩ := h
    exact ⟨Nat.le_refl _, .inl rfl⟩
  | n + 1, c :: l, v, m, hl, h => by
    simp only [List.length_cons] at hl ⊢
    rw [valR.eq_def] at h
    simp only at h
    split at h
    · rename_i hc
      subst hc
      simp only [Option.some.injEq, Prod.mk.injEq] at h
      obtain ⟨-, rfl⟩ := h
      exact ⟨by simp, .inr ⟨_, rfl⟩⟩
    · split at h
      · cases l with
        | nil => cases h
        | cons d l =>
          simp only [Option.map_eq_some_iff] at h
          obtain ⟨⟨v', m'⟩, h1, h2⟩ := h
          simp only [Prod.mk.injEq] at h2
          obtain ⟨-, rfl⟩ := h2
          simp only [List.length_cons] at hl ⊢
          have := valR_rest n l v' m' (by omega) h1
          exact ⟨by omega, this.2⟩
      · simp only [Option.map_eq_some_iff] at h
        obtain ⟨⟨v', m'⟩, h1, h2⟩ := h
        simp only [Prod.mk.injEq] at h2
        obtain ⟨-, rfl⟩ := h2
        have := valR_rest n l v' m' (by omega) h1
        exact ⟨by omega, this.2⟩
theorem oneR_rest : ∀ (l : List UInt8) (x : List UInt8 × List UInt8) (m : List UInt8), oneR l = some (x, m) → m.length < l.length ∧ (m = [] ∨ ∃ t, m = 44 :: t)
  | [], _, _, h => by cases h
  | c :: l, x, m, h => by
    rw [oneR] at h
    split at h
    · simp only [Option.map_eq_some_iff] at h
      obtain ⟨⟨v', m'⟩, h1, h2⟩ := h
      simp only [Prod.mk.injEq] at h2
      obtain ⟨-, rfl⟩ := h2
      have := valR_rest _ l v' m' (Nat.le_refl _) h1
      exact ⟨by simp; omega, this.2⟩
    · simp only [Option.map_eq_some_iff] at h
      obtain ⟨⟨v', m'⟩, h1, h2⟩ := h
      simp only [Prod.mk.injEq] at h2
      obtain ⟨-, rfl⟩ := h2
      have := oneR_rest l v' m' h1
      exact ⟨by simp; omega, this.2⟩
abbrev bl (x : List UInt8 × List UInt8) : BLab := (⟨x.1.toArray⟩, ⟨x.2.toArray⟩)
/-- All of a text's labels. -/
def allR : Nat → List UInt8 → Option (List BLab)
  | 0, _ => none
  | k + 1, l => match oneR l with
    | none => none
    | some (x, []) => some [bl x]
    | some (x, _ :: m) => (allR k m).map (bl x :: ·)
def finR (r : Rd) : Option (List BLab) := if r.inVal && !r.esc then some (r.all ++ [(r.name, r.value)]) else none
abbrev rdBy (r : Rd) (l : List UInt8) : Rd := rdFold r (l.map fun b => [b])
theorem append_one (s : ByteArray) (b : UInt8) (v : List UInt8) : s ++ (⟨[b].toArray⟩ : ByteArray) ++ ⟨v.toArray⟩ = s ++ ⟨(b :: v).toArray⟩ := append_mk s [b] v
/-- A value, read byte by byte. -/
theorem value_by : ∀ (n : Nat) (l : List UInt8) (r : Rd), l.length ≤ n → r.inVal = true → r.esc = false →
    (valR l = none → finR (rdBy r l) = none) ∧ (∀ v, valR l = some (v, []) → rdBy r l = { r with value := r.value ++ ⟨v.toArray⟩ }) ∧
      (∀ v c m, valR l = some (v, c :: m) → rdBy r l = rdBy (rdA (r.all ++ [(r.name, r.value ++ ⟨v.toArray⟩)])) m)
  | 0, l, r, hl, h1, h2 => by
    obtain rfl : l = [] := List.eq_nil_of_length_eq_zero (by omega)
    refine ⟨fun h => (by cases h), fun v h => ?_, fun v c m h => (by simp [valR] at h)⟩
    simp only [valR, Option.some.injEq, Prod.mk.injEq, and_true] at h
    subst h
    rw [append_nil]
    rfl
  | n + 1, [], r, hl, h1, h2 => by
    refine ⟨fun h => (by cases h), fun v h => ?_, fun v c m h => (by simp [valR] at h)⟩
    simp only [valR, Option.some.injEq, Prod.mk.injEq, and_true] at h
    subst h
    rw [append_nil]
    rfl
  | n + 1, c :: l, r, hl, h1, h2 => by
    simp only [List.length_cons] at hl
    have hst : rdBy r (c :: l) = rdBy (r.step ⟨[c].toArray⟩) l := rfl
    rw [hst, valR.eq_def]
    simp only
    by_cases hc : c = 44
    · subst hc
      have e : r.step ⟨[44].toArray⟩ = rdA (r.all ++ [(r.name, r.value)]) := by
        unfold Rd.step
        simp only [h1, h2, keyIs_mk, if_true, beq_self_eq_true, Bool.not_false, Bool.and_true]
        rfl
      rw [if_pos rfl, e]
      refine ⟨fun h => (by cases h), fun v h => ?_, fun v c m h => ?_⟩
      · simp at h
      · simp only [Option.some.injEq, Prod.mk.injEq, List.cons.injEq] at h
        obtain ⟨rfl, rfl, rfl⟩ := h
        rw [append_nil]
    · rw [if_neg hc]
      by_cases hd : c = 92
      · subst hd
        have e : r.step ⟨[92].toArray⟩ = { r with esc := true } := by
          unfold Rd.step
          simp only [h1, h2, keyIs_mk, if_true, beq_self_eq_true, Bool.not_false, Bool.and_true]
          rfl
        rw [if_pos rfl, e]
        cases l with
        | nil =>
          refine ⟨fun _ => ?_, fun v h => (by cases h), fun v c m h => (by cases h)⟩
          show finR { r with esc := true } = none
          unfold finR
          simp
        | cons d l =>
          have e2 : ({ r with esc := true } : Rd).step ⟨[d].toArray⟩ = { r with value := r.value ++ ⟨[d].toArray⟩ } := by
            unfold Rd.step
            simp only [h1, h2, if_true, Bool.not_true, Bool.and_false, Bool.false_eq_true, if_false]
          have hst2 : rdBy ({ r with esc := true } : Rd) (d :: l) = rdBy { r with value := r.value ++ ⟨[d].toArray⟩ } l := by
            show rdBy (({ r with esc := true } : Rd).step ⟨[d].toArray⟩) l = _
            rw [e2]
          simp only [List.length_cons] at hl
          obtain ⟨i1, i2, i3⟩ := value_by n l { r with value := r.value ++ ⟨[d].toArray⟩ } (by omega) h1 h2
          rw [hst2]
          simp only
          refine ⟨fun h => i1 (by simpa using h), fun v h => ?_, fun v c m h => ?_⟩
          · simp only [Option.map_eq_some_iff] at h
            obtain ⟨⟨v', m'⟩, h3, h4⟩ := h
            simp only [Prod.mk.injEq] at h4
            obtain ⟨rfl, rfl⟩ := h4
            rw [i2 _ h3]
            simp only [append_one]
          · simp only [Option.map_eq_some_iff] at h
            obtain ⟨⟨v', m'⟩, h3, h4⟩ := h
            simp only [Prod.mk.injEq] at h4
            obtain ⟨rfl, rfl⟩ := h4
            rw [i3 _ _ _ h3]
            simp only [append_one]
      · rw [if_neg hd]
        have e2 : r.step ⟨[c].toArray⟩ = { r with value := r.value ++ ⟨[c].toArray⟩ } := by
          have g1 : (([c] : List UInt8) == [44]) = false := by simpa using hc
          have g2 : (([c] : List UInt8) == [92]) = false := by simpa using hd
          unfold Rd.step
          simp only [h1, h2, keyIs_mk, g1, g2, if_true, Bool.false_and, Bool.false_eq_true, if_false]
        obtain ⟨i1, i2, i3⟩ := value_by n l { r with value := r.value ++ ⟨[c].toArray⟩ } (by omega) h1 h2
        rw [e2]
        refine ⟨fun h => i1 (by simpa using h), fun v h => ?_, fun v c' m h => ?_⟩
        · simp only [Option.map_eq_some_iff] at h
          obtain ⟨⟨v', m'⟩, h3, h4⟩ := h
          simp only [Prod.mk.injEq] at h4
          obtain ⟨rfl, rfl⟩ := h4
          rw [i2 _ h3]
          simp only [append_one]
        · simp only [Option.map_eq_some_iff] at h
          obtain ⟨⟨v', m'⟩, h3, h4⟩ := h
          simp only [Prod.mk.injEq] at h4
          obtain ⟨rfl, rfl⟩ := h4
          rw [i3 _ _ _ h3]
          simp only [append_one]
/-- A label, read byte by byte. -/
theorem one_by : ∀ (l : List UInt8) (r : Rd), r.inVal = false → r.esc = false → r.value = ⟨#[]⟩ →
    (oneR l = none → finR (rdBy r l) = none) ∧ (∀ x, oneR l = some (x, []) → rdBy r l = { r with name := r.name ++ ⟨x.1.toArray⟩, value := ⟨x.2.toArray⟩, inVal := true }) ∧
      (∀ x c m, oneR l = some (x, c :: m) → rdBy r l = rdBy (rdA (r.all ++ [(r.name ++ ⟨x.1.toArray⟩, ⟨x.2.toArray⟩)])) m)
  | [], r, h1, h2, h3 => by
    refine ⟨fun _ => ?_, fun x h => by simp [oneR] at h, fun x c m h => by simp [oneR] at h⟩
    show finR r = none
    unfold finR
    simp [h1]
  | c :: l, r, h1, h2, h3 => by
    have hst : rdBy r (c :: l) = rdBy (r.step ⟨[c].toArray⟩) l := rfl
    rw [hst, oneR]
    by_cases hc : c = 61
    · subst hc
      have e : r.step ⟨[61].toArray⟩ = { r with inVal := true } := by
        unfold Rd.step
        simp only [h1, eqIs_mk, Bool.false_eq_true, if_false]
        simp
      obtain ⟨i1, i2, i3⟩ := value_by l.length l { r with inVal := true } (Nat.le_refl _) rfl h2
      have hv : ∀ v : List UInt8, r.value ++ (⟨v.toArray⟩ : ByteArray) = ⟨v.toArray⟩ := fun v => by rw [h3]; exact nil_append_mk _ _ rfl
      simp only [hv] at i2 i3
      rw [if_pos rfl, e]
      refine ⟨fun h => i1 (by simpa using h), fun x h => ?_, fun x c m h => ?_⟩
      · simp only [Option.map_eq_some_iff] at h
        obtain ⟨⟨v', m'⟩, h4, h5⟩ := h
        simp only [Prod.mk.injEq] at h5
        obtain ⟨rfl, rfl⟩ := h5
        rw [i2 _ h4]
        simp only [append_nil]
      · simp only [Option.map_eq_some_iff] at h
        obtain ⟨⟨v', m'⟩, h4, h5⟩ := h
        simp only [Prod.mk.injEq] at h5
        obtain ⟨rfl, rfl⟩ := h5
        rw [i3 _ _ _ h4]
        simp only [append_nil]
    · have e : r.step ⟨[c].toArray⟩ = { r with name := r.name ++ ⟨[c].toArray⟩ } := by
        have g1 : (([c] : List UInt8) == [61]) = false := by simpa using hc
        unfold Rd.step
        simp only [h1, eqIs_mk, g1, Bool.false_eq_true, if_false]
      obtain ⟨i1, i2, i3⟩ := one_by l { r with name := r.name ++ ⟨[c].toArray⟩ } h1 h2 h3
      rw [if_neg hc, e]
      refine ⟨fun h => i1 (by simpa using h), fun x h => ?_, fun x c' m h => ?_⟩
      · simp only [Option.map_eq_some_iff] at h
        obtain ⟨⟨v', m'⟩, h4, h5⟩ := h
        simp only [Prod.mk.injEq] at h5
        obtain ⟨rfl, rfl⟩ := h5
        rw [i2 _ h4]
        simp only [append_one]
      · simp only [Option.map_eq_some_iff] at h
        obtain ⟨⟨v', m'⟩, h4, h5⟩ := h
        simp only [Prod.mk.injEq] at h5
        obtain ⟨rfl, rfl⟩ := h5
        rw [i3 _ _ _ h4]
        simp only [append_one]
theorem all_by : ∀ (k : Nat) (l : List UInt8) (A : List BLab), l.length < k → finR (rdBy (rdA A) l) = (allR k l).map (A ++ ·)
  | 0, l, A, h => by omega
  | k + 1, l, A, h => by
    obtain ⟨i1, i2, i3⟩ := one_by l (rdA A) rfl rfl rfl
    have hn : ∀ v : List UInt8, (rdA A).name ++ (⟨v.toArray⟩ : ByteArray) = ⟨v.toArray⟩ := fun v => nil_append_mk _ _ rfl
    rw [allR]
    cases ho : oneR l with
    | none => rw [i1 ho]; rfl
    | some y =>
      obtain ⟨x, m⟩ := y
      cases m with
      | nil =>
        rw [i2 _ ho]
        simp only [hn]
        rfl
      | cons c m =>
        have hl := (oneR_rest l x _ ho).1
        simp only [List.length_cons] at hl
        rw [i3 _ _ _ ho]
        simp only [hn]
        have := all_by k m ((rdA A).all ++ [bl x]) (by omega)
        show finR (rdBy (rdA ((rdA A).all ++ [bl x])) m) = _
        rw [this]
        simp only [Option.map_map]
        congr 1
        funext K
        show (A ++ [bl x]) ++ K = A ++ (bl x :: K)
        simp
theorem readB_all (l : List UInt8) (h : validD l = true) : readB l = allR (l.length + 1) l := by
  have h1 := all_by (l.length + 1) l [] (by omega)
  have h2 : readB l = finR (rdFold rd0 (runes l)) := by
    unfold readB finR
    rw [if_pos h]
  rw [h2, fold_bytes l.length l rd0 (Nat.le_refl _) h]
  have e : rd0 = rdA [] := rfl
  rw [e, h1]
  simp
end Go.Proofs.YtjhdgpboofcelaaGreat
