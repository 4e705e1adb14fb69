/- LabelRunes: the walk. -/
import Derived.Test.YtjhdgpboofcelaaGreatE2
namespace Go.Proofs.YtjhdgpboofcelaaGreat
open Go.RowKit
open Go.Lib (decodeL validD)

theorem cutB_size (s : ByteArray) : (cutB s).size ≤ 600 := by
  unfold cutB
  rw [ByteArray.size_extract]
  omega
/-- Runes of a text, how many and whether they are right. -/
def nR (s : ByteArray) : Nat := if validD s.data.toList then (runes s.data.toList).length else 0
def vR (s : ByteArray) : Bool := validD s.data.toList
theorem runes_cut (s : ByteArray) (w : World) (hs : s.size ≤ 100000) :
    Calls Tryz.prog 14 #[.string s] w fun e w' => e = .returned (.tuple #[.int .i64 (nR s), .bool (vR s)]) ∧ Below w.heap.size w w' := runes_any s w (by omega)
theorem nR_le (s : ByteArray) : nR s ≤ s.size := by
  unfold nR
  split
  · exact Nat.le_trans (runes_le _) (by rw [data_length]; exact Nat.le_refl _)
  · exact Nat.zero_le _
theorem data_append (s t : ByteArray) : (s ++ t).data.toList = s.data.toList ++ t.data.toList := by simp
theorem vR_append (s t : ByteArray) (h : vR s = true) : vR (s ++ t) = vR t ∧ (vR t = true → nR (s ++ t) = nR s + nR t) := by
  unfold vR nR at *
  rw [data_append]
  have h1 := validD_append t.data.toList h
  refine ⟨h1, fun h2 => ?_⟩
  rw [h1, h2, h, runes_append t.data.toList h]
  simp
theorem vR_left (s t : ByteArray) (h : vR s = false) (ht : vR t = true) : vR (s ++ t) = false := by
  unfold vR at *
  rw [data_append]
  cases hx : validD (s.data.toList ++ t.data.toList)
  · rfl
  · rw [validD_left hx ht] at h
    cases h
theorem nR_wrong (s : ByteArray) (h : vR s = false) : nR s = 0 := by
  unfold nR vR at *
  rw [h]
  rfl
set_option maxRecDepth 100000 in
theorem labelRunes_law (s t : ByteArray) (hs : s.size ≤ maxLen) (ht : t.size ≤ maxLen) (w : World) :
    Calls Tryz.prog 6 #[.string s, .string t] w fun e w' => e = .returned (.bool true) ∧ Below w.heap.size w w' := by
  have hmx : maxLen = 9223372036854775807 := by decide +kernel
  have c1 := fun W => cut_any s W (by omega)
  have c2 := fun W => cut_any t W (by omega)
  have l1 := cutB_size s
  have l2 := cutB_size t
  generalize cutB s = a at *
  generalize cutB t = b at *
  have r1 := fun W => runes_cut a W (by omega)
  have r2 := fun W => runes_cut b W (by omega)
  have hsz : (a ++ b).size = a.size + b.size := by simp
  have r3 := fun W => runes_cut (a ++ b) W (by omega)
  have b1 := nR_le a
  have b2 := nR_le b
  have b3 := nR_le (a ++ b)
  have e1 := vR_append a b
  have e2 := vR_left a b
  have e3 := nR_wrong (a ++ b)
  have hab : a.size + b.size ≤ 140737488355328 := by omega
  generalize hn : nR a = n at *
  generalize hm : nR b = m at *
  generalize hk : nR (a ++ b) = k at *
  generalize vR a = x at *
  generalize vR b = y at *
  generalize hz : vR (a ++ b) = z at *
  have hn1 : n ≤ 600 := by omega
  have hm1 : m ≤ 600 := by omega
  have hk1 : k ≤ 1200 := by omega
  have hx : (x = true ∧ y = true ∧ z = true ∧ k = n + m) ∨ (x = true ∧ y = false ∧ z = false ∧ k = 0) ∨ (x = false ∧ y = true ∧ z = false) ∨ (x = false ∧ y = false) := by
    cases x <;> cases y
    · simp
    · right; right; left; exact ⟨rfl, rfl, e2 rfl rfl⟩
    · right; left; have := (e1 rfl).1; exact ⟨rfl, rfl, this, e3 this⟩
    · left; exact ⟨rfl, rfl, (e1 rfl).1, (e1 rfl).2 rfl⟩
  clear e1 e2 e3 hs ht b1 b2 b3 hsz hn hm hk hz l1 l2
  go_enter Tryz.func6, Tryz.ntmps6
  go_wp2_with fail
  refine (shown_any _).mono ?_
  rintro e w1 ⟨rfl, B1⟩
  go_wp2_with fail
  refine (c1 _).mono ?_
  rintro e w2 ⟨rfl, B2⟩
  go_wp2_with fail
  refine (r1 _).mono ?_
  rintro e w3 ⟨rfl, B3⟩
  go_wp2_with fail
  refine (c2 _).mono ?_
  rintro e w4 ⟨rfl, B4⟩
  go_wp2_with fail
  refine (r2 _).mono ?_
  rintro e w5 ⟨rfl, B5⟩
  go_wp2_with fail
  refine (c1 _).mono ?_
  rintro e w6 ⟨rfl, B6⟩
  go_wp2_with fail
  refine (c2 _).mono ?_
  rintro e w7 ⟨rfl, B7⟩
  go_wp2_with fail
  refine (r3 _).mono ?_
  rintro e w8 ⟨rfl, B8⟩
  have s1 := B1.size
  have s2 := B2.size
  have s3 := B3.size
  have s4 := B4.size
  have s5 := B5.size
  have s6 := B6.size
  have s7 := B7.size
  have B : Below w.heap.size w w8 := ((((((B1.trans (B2.mono s1)).trans (B3.mono (by omega))).trans (B4.mono (by omega))).trans (B5.mono (by omega))).trans (B6.mono (by omega))).trans (B7.mono (by omega))).trans (B8.mono (by omega))
  clear B1 B2 B3 B4 B5 B6 B7 B8 s1 s2 s3 s4 s5 s6 s7 c1 c2 r1 r2 r3
  rcases hx with ⟨rfl, rfl, rfl, rfl⟩ | ⟨rfl, rfl, rfl, rfl⟩ | ⟨rfl, rfl, rfl⟩ | ⟨rfl, rfl⟩
  · go_wp2_with fail
    go_ret
    exact ⟨by simp, B⟩
  · go_wp2_with fail
    go_ret
    exact ⟨by simp, B⟩
  · go_wp2_with fail
    go_ret
    exact ⟨by simp, B⟩
  · go_wp2_with fail
    go_ret
    exact ⟨by simp, B⟩
end Go.Proofs.YtjhdgpboofcelaaGreat
