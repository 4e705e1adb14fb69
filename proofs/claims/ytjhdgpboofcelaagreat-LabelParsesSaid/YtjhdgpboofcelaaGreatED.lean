/- The references: isName, isValue, Right, Get. -/
import Derived.Test.YtjhdgpboofcelaaGreatEC
namespace Go.Proofs.YtjhdgpboofcelaaGreat
open Go.RowKit
open Go.Lib (decodeL validD)

theorem byte_at (s : ByteArray) (k : Nat) (h : k < s.size) : (s.data.toList[k]'(by rw [data_length]; exact h)) = s[k] := by simp [ByteArray.getElem_eq_getElem_data]
theorem take_all (p : UInt8 → Bool) (s : ByteArray) (k : Nat) (h : k < s.size) : (s.data.toList.take (k + 1)).all p = ((s.data.toList.take k).all p && p s[k]) := by
  rw [List.take_succ_eq_append_getElem (by rw [data_length]; exact h), List.all_append, byte_at s k h]
  simp
theorem all_false (p : UInt8 → Bool) (s : ByteArray) (k : Nat) (h : k < s.size) (hp : p s[k] = false) : s.data.toList.all p = false := by
  rw [List.all_eq_false]
  refine ⟨s[k], ?_, by rw [hp]; simp⟩
  rw [← byte_at s k h]
  exact List.getElem_mem _
set_option maxHeartbeats 1000000 in
set_option maxRecDepth 100000 in
theorem rname_any (s : ByteArray) (w : World) (hs : s.size ≤ 1000000) :
    Calls Tryz.prog 43 #[.string s] w fun e w' => e = .returned (.bool (nameB s.data.toList)) ∧ Below w.heap.size w w' := by
  have hA : ∀ k, (h : k < s.size) → isAz s[k] = false → nameB s.data.toList = false := fun k h h1 => by unfold nameB; rw [all_false isAz s k h h1]; rfl
  have hE : s.data.toList.all isAz = true → nameB s.data.toList = (decide (1 ≤ s.size) && decide (s.size ≤ 12)) := fun h => by unfold nameB; rw [h, data_length]; rfl
  generalize nameB s.data.toList = N at *
  go_enter Tryz.func43, Tryz.ntmps43
  go_wp2
  go_loopw [3] (fun i wr => ∃ k : Nat, k ≤ s.size ∧ i = .int .i64 k ∧ (s.data.toList.take k).all isAz = true ∧ wr = w)
    (fun i _ => s.size - (intOf i).toNat)
  case atStart => exact ⟨0, by omega, rfl, by simp, rfl⟩
  case round =>
    obtain ⟨k, hk, rfl, hall, rfl⟩ := hrel
    by_cases hks : k < s.size
    · have hki : (k : Int) < s.size := by omega
      have hst := take_all isAz s k hks
      have hn := hA k hks
      rw [hall, Bool.true_and] at hst
      have hz : isAz s[k] = (decide (97 ≤ s[k].toNat) && decide (s[k].toNat ≤ 122)) := rfl
      rw [hz] at hst hn
      clear hz
      have HS := Lib.hid hst
      have HN := Lib.hid hn
      clear hst hn hA hE hall
      by_cases h1 : s[k].toNat < 97
      · have h1' : (s[k].toNat : Int) < 97 := by omega
        have : N = false := HN.out (by simp; omega)
        subst this
        go_wp2
        go_ret
        exact ⟨rfl, Below.refl _ _⟩
      · have h1' : ¬ (s[k].toNat : Int) < 97 := by omega
        by_cases h2 : 122 < s[k].toNat
        · have h2' : (122 : Int) < s[k].toNat := by omega
          have : N = false := HN.out (by simp; omega)
          subst this
          go_wp2
          go_ret
          exact ⟨rfl, Below.refl _ _⟩
        · have h2' : ¬ (122 : Int) < s[k].toNat := by omega
          go_wp2
          go_roundw
          case rel => exact ⟨k + 1, by omega, by go_num, by rw [HS.out]; simp; omega, trivial⟩
          case measure => simp [intOf]; omega
    · have hki : ¬ (k : Int) < s.size := by omega
      have he := hE (by rwa [List.take_of_length_le (by rw [data_length]; omega)] at hall)
      subst he
      clear hA hE hall
      by_cases h1 : 1 ≤ s.size
      · have h1' : (1 : Int) ≤ s.size := by omega
        go_wp2
        go_ret
        exact ⟨by simp [h1]; omega, Below.refl _ _⟩
      · have h1' : ¬ (1 : Int) ≤ s.size := by omega
        go_wp2
        go_ret
        exact ⟨by simp [h1], Below.refl _ _⟩
theorem take_anyU (p : UInt8 → Bool) (s : ByteArray) (k : Nat) (h : k < s.size) : (s.data.toList.take (k + 1)).any p = ((s.data.toList.take k).any p || p s[k]) := by
  rw [List.take_succ_eq_append_getElem (by rw [data_length]; exact h), List.any_append, byte_at s k h]
  simp
theorem any_true (p : UInt8 → Bool) (s : ByteArray) (k : Nat) (h : k < s.size) (hp : p s[k] = true) : s.data.toList.any p = true := by
  rw [List.any_eq_true]
  refine ⟨s[k], ?_, hp⟩
  rw [← byte_at s k h]
  exact List.getElem_mem _
set_option maxHeartbeats 1000000 in
set_option maxRecDepth 100000 in
theorem rvalue_any (s : ByteArray) (w : World) (hs : s.size ≤ 100000) :
    Calls Tryz.prog 44 #[.string s] w fun e w' => e = .returned (.bool (valueB s.data.toList)) ∧ Below w.heap.size w w' := by
  have hA : ∀ k, (h : k < s.size) → isCtl s[k] = true → valueB s.data.toList = false := fun k h h1 => by unfold valueB; rw [any_true isCtl s k h h1]; simp
  have hE : s.data.toList.any isCtl = false → valueB s.data.toList = (vR s && decide (nR s ≤ 24)) := fun h => by
    unfold valueB nR vR
    rw [h]
    cases validD s.data.toList <;> simp
  have hru := rrunes_any s w hs
  have hle := nR_le s
  generalize valueB s.data.toList = N at *
  generalize nR s = n at *
  generalize vR s = V at *
  go_enter Tryz.func44, Tryz.ntmps44
  go_wp2
  go_loopw [3] (fun i wr => ∃ k : Nat, k ≤ s.size ∧ i = .int .i64 k ∧ (s.data.toList.take k).any isCtl = false ∧ wr = w)
    (fun i _ => s.size - (intOf i).toNat)
  case atStart => exact ⟨0, by omega, rfl, by simp, rfl⟩
  case round =>
    obtain ⟨k, hk, rfl, hall, rfl⟩ := hrel
    by_cases hks : k < s.size
    · have hki : (k : Int) < s.size := by omega
      have hst := take_anyU isCtl s k hks
      have hn := hA k hks
      rw [hall, Bool.false_or] at hst
      have hz : isCtl s[k] = (decide (s[k].toNat < 32) || decide (s[k].toNat = 127)) := rfl
      rw [hz] at hst hn
      clear hz
      have HS := Lib.hid hst
      have HN := Lib.hid hn
      clear hst hn hA hE hall hru
      by_cases h1 : s[k].toNat < 32
      · have h1' : (s[k].toNat : Int) < 32 := by omega
        have : N = false := HN.out (by simp; omega)
        subst this
        go_wp2
        go_ret
        exact ⟨rfl, Below.refl _ _⟩
      · have h1' : ¬ (s[k].toNat : Int) < 32 := by omega
        by_cases h2 : s[k].toNat = 127
        · have h2' : ((s[k].toNat : Int) == 127) = true := by simp; omega
          have : N = false := HN.out (by simp; omega)
          subst this
          clear HS HN h2
          go_wp2
          go_ret
          exact ⟨rfl, Below.refl _ _⟩
        · have h2' : ((s[k].toNat : Int) == 127) = false := by simp; omega
          clear HN
          go_wp2
          go_roundw
          case rel => exact ⟨k + 1, by omega, by go_num, by rw [HS.out]; simp; omega, trivial⟩
          case measure => simp [intOf]; omega
    · have hki : ¬ (k : Int) < s.size := by omega
      have he := hE (by rwa [List.take_of_length_le (by rw [data_length]; omega)] at hall)
      subst he
      clear hA hE hall
      go_wp2_with fail
      refine hru.mono ?_
      rintro e w1 ⟨rfl, hB⟩
      cases V
      · go_wp2_with fail
        go_ret
        exact ⟨rfl, hB⟩
      · go_wp2_with fail
        go_ret
        exact ⟨by simp; omega, hB⟩
end Go.Proofs.YtjhdgpboofcelaaGreat
