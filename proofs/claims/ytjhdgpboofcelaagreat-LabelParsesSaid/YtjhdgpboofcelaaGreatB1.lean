/- A value with a backslash ahead of each comma and backslash, plain. No program in sight. No condition. -/
import Derived.Lib.Bytealg
namespace Go.Proofs.YtjhdgpboofcelaaGreat
/-- What is put for a byte. -/
def escB (b : UInt8) : List UInt8 := if b = 92 ∨ b = 44 then [92, b] else [b]
def esc (l : List UInt8) : List UInt8 := l.flatMap escB
theorem esc_nil : esc [] = [] := rfl
theorem esc_cons (b : UInt8) (l : List UInt8) : esc (b :: l) = escB b ++ esc l := by simp [esc]
theorem esc_append (a b : List UInt8) : esc (a ++ b) = esc a ++ esc b := by simp [esc]
theorem esc_take (l : List UInt8) (i : Nat) (h : i < l.length) : esc (l.take (i + 1)) = esc (l.take i) ++ escB l[i] := by
  rw [List.take_succ_eq_append_getElem h, esc_append]
  simp [esc]
theorem esc_length : ∀ l : List UInt8, (esc l).length = l.length + (l.count 92 + l.count 44)
  | [] => rfl
  | b :: l => by
    rw [esc_cons, List.length_append, esc_length l, List.count_cons, List.count_cons, List.length_cons]
    unfold escB
    by_cases h1 : b = 92
    · subst h1
      simp
      omega
    · by_cases h2 : b = 44
      · subst h2
        simp
        omega
      · simp [h1, h2]
        omega
theorem esc_same : ∀ l : List UInt8, l.count 92 + l.count 44 = 0 → esc l = l
  | [], _ => rfl
  | b :: l, h => by
    rw [List.count_cons, List.count_cons] at h
    have h1 : b ≠ 92 := by rintro rfl; simp at h
    have h2 : b ≠ 44 := by rintro rfl; simp at h
    rw [esc_cons, esc_same l (by omega)]
    simp [escB, h1, h2]
theorem esc_le (l : List UInt8) : (esc l).length ≤ 2 * l.length := by
  induction l with
  | nil => simp [esc]
  | cons b l ih =>
    rw [esc_cons, List.length_append, List.length_cons]
    have : (escB b).length ≤ 2 := by unfold escB; split <;> simp
    omega
end Go.Proofs.YtjhdgpboofcelaaGreat
