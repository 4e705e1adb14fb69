/- A rune put down again: the model's own encoding gives the bytes that were read. No program in sight. No condition. -/
import Derived.Test.YtjhdgpboofcelaaGreatB0
import Derived.Laws.Runes
namespace Go.Proofs.YtjhdgpboofcelaaGreat
open Go.Lib

theorem mk_toList (b : ByteArray) : b = ⟨b.data.toList.toArray⟩ := by cases b; simp
theorem byteAt (z : Int) (n : Nat) (h : z = (n : Int)) : z.toNat.toUInt8 = UInt8.ofNat n := by
  subst h
  rfl
theorem encode_eq (r : Nat) (hv : r < 55296 ∨ (57344 ≤ r ∧ r ≤ 1114111)) : (Utf8.encode (r : Int)).data.toList = encodeRune (r : Int) := by
  have h1 : Utf8.valid (r : Int) = true := by unfold Utf8.valid; simp; omega
  unfold Utf8.encode encodeRune
  simp only [h1, if_true, Int.toNat_natCast]
  by_cases c1 : r < 128
  · rw [if_pos c1, encodeRuneZ_one (by omega) (by omega)]
    simp only [List.map_cons, List.map_nil]
    rw [byteAt _ r rfl]
  · rw [if_neg c1]
    by_cases c2 : r < 2048
    · rw [if_pos c2, encodeRuneZ_two (by omega) (by omega)]
      simp only [List.map_cons, List.map_nil]
      rw [byteAt _ (192 + r / 64) (by omega), byteAt _ (128 + r % 64) (by omega)]
    · rw [if_neg c2]
      by_cases c3 : r < 65536
      · rw [if_pos c3, encodeRuneZ_three (by omega)]
        simp only [List.map_cons, List.map_nil]
        rw [byteAt _ (224 + r / 4096) (by omega), byteAt _ (128 + r / 64 % 64) (by omega), byteAt _ (128 + r % 64) (by omega)]
      · rw [if_neg c3, encodeRuneZ_four (by omega) (by omega)]
        simp only [List.map_cons, List.map_nil]
        rw [byteAt _ (240 + r / 262144) (by omega), byteAt _ (128 + r / 4096 % 64) (by omega), byteAt _ (128 + r / 64 % 64) (by omega), byteAt _ (128 + r % 64) (by omega)]
theorem decode_range (l : List UInt8) : (decodeL l).1 < 55296 ∨ (57344 ≤ (decodeL l).1 ∧ (decodeL l).1 ≤ 1114111) := by
  have k0 := (l.getD 0 0).toNat_lt
  rw [decodeL_N]
  rcases decodeN_shape l.length (l.getD 0 0).toNat (l.getD 1 0).toNat (l.getD 2 0).toNat (l.getD 3 0).toNat with ⟨c, e⟩ | ⟨k1, k2, k3, cv, e⟩ | ⟨k1, k2, k3, k4, cv, cs, e⟩ | ⟨k1, k2, k3, k4, k5, cv, cw, e⟩ | e
  all_goals (rw [e]; simp only; omega)
/-- A right rune, put down again. -/
theorem encode_rune (l : List UInt8) (hne : l ≠ []) (hv : ¬ ((decodeL l).1 = 65533 ∧ (decodeL l).2 = 1)) : Utf8.encode ((decodeL l).1 : Int) = ⟨(l.take (decodeL l).2).toArray⟩ := by
  have h1 := encode_eq (decodeL l).1 (decode_range l)
  rw [encode_decode l hne hv] at h1
  exact (mk_toList _).trans (congrArg (fun l : List UInt8 => ByteArray.mk l.toArray) h1)
end Go.Proofs.YtjhdgpboofcelaaGreat
