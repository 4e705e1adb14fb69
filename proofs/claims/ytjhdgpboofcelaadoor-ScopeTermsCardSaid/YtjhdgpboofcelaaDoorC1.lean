/- Package label: Runes. -/
import Derived.Test.YtjhdgpboofcelaaDoorTail2
import Derived.Test.YtjhdgpboofcelaaDoorB0
import Derived.Test.YtjhdgpboofcelaaDoorShelf
import Derived.Lib.RuneCount
import Derived.Laws.RangeAny
import Derived.Lib.SliceRun
import Derived.Lib.Hide
namespace Go.Proofs.YtjhdgpboofcelaaDoor
open Go.RowKit
open Go.Lib (decodeL validD)

theorem ffd_prefix (l : List UInt8) (h : Lib.hasPrefix l [239, 191, 189] = true) : decodeL l = (65533, 3) := by
  have h2 : [239, 191, 189] <+: l := by simpa [Lib.hasPrefix] using h
  obtain ⟨t, rfl⟩ := h2
  rw [Lib.decodeL_N]
  simp [Lib.decodeN]
theorem ffd_width (l : List UInt8) (hne : l ≠ []) (h : (decodeL l).1 = 65533) : Lib.hasPrefix l [239, 191, 189] = !decide ((decodeL l).2 = 1) := by
  by_cases h1 : (decodeL l).2 = 1
  · cases hp : Lib.hasPrefix l [239, 191, 189]
    · simp [h1]
    · rw [ffd_prefix l hp] at h1; simp at h1
  · have h2 := Lib.encode_decode l hne (by omega)
    rw [h] at h2
    have h3 : Lib.encodeRune (65533 : Nat) = [239, 191, 189] := by decide
    rw [h3] at h2
    have : [239, 191, 189] <+: l := by rw [h2]; exact List.take_prefix _ _
    simp [h1, Lib.hasPrefix, this]
theorem data_length (s : ByteArray) : s.data.toList.length = s.size := by simp
theorem extract_tail (s : ByteArray) (pos : Nat) : (s.extract pos s.size).data.toList = s.data.toList.drop pos := by
  rw [Lib.extract_data]
  exact List.take_of_length_le (by rw [List.length_drop, data_length]; exact Nat.le_refl _)
/-- What stands at a place of a text: the rune, how wide it is; whether it is wrong. -/
theorem rune_at (s : ByteArray) (pos : Nat) (hp : pos < s.size) : ∃ r k : Nat, Utf8.decode s pos = (r, k) ∧ 1 ≤ k ∧ pos + k ≤ s.size ∧ r ≤ 1114111 ∧
    runes (s.data.toList.drop pos) = (s.data.toList.drop pos).take k :: runes (s.data.toList.drop (pos + k)) ∧
    validD (s.data.toList.drop pos) = (if r = 65533 ∧ k = 1 then false else validD (s.data.toList.drop (pos + k))) ∧
    (r = 65533 → Lib.hasPrefix (s.extract pos s.size).data.toList [239, 191, 189] = !decide (k = 1)) := by
  have hne : s.data.toList.drop pos ≠ [] := by
    intro h0
    have := congrArg List.length h0
    rw [List.length_drop, data_length] at this
    simp at this
    omega
  have hd := Lib.decodeL_drop s pos
  have hwd := Lib.decodeL_width (s.data.toList.drop pos)
  have hru := Lib.decodeL_rune (s.data.toList.drop pos)
  have hle := Lib.decodeL_le _ hne
  have h1 := runes_step _ hne
  have h2 := Lib.validD_step _ hne
  have h3 := ffd_width _ hne
  rw [← extract_tail] at h3
  rw [extract_tail] at h3
  rw [hd] at hwd hle h1 h2 h3 hru
  rw [List.length_drop, data_length] at hle
  rw [List.drop_drop] at h1 h2
  clear hd
  generalize Utf8.decode s pos = d at *
  obtain ⟨r, k⟩ := d
  simp only at hwd hle h1 h2 h3 hru
  refine ⟨r, k, rfl, hwd, by omega, hru, h1, h2, fun h => ?_⟩
  rw [extract_tail]
  exact h3 h

theorem runes_any (s : ByteArray) (w : World) (hs : s.size < 9223372036854775807) :
    Calls Tryd.prog 6 #[.string s] w fun e w' => e = .returned (.tuple #[.int .i64 (if validD s.data.toList then (runes s.data.toList).length else 0 : Nat), .bool (validD s.data.toList)]) ∧ Below w.heap.size w w' := by
  have hN : (runes (s.data.toList.drop 0)).length = (runes s.data.toList).length := by simp
  have hV : validD (s.data.toList.drop 0) = validD s.data.toList := by simp
  generalize (runes s.data.toList).length = N at *
  generalize validD s.data.toList = V at *
  have HN := Lib.hid hN
  have HV := Lib.hid hV
  clear hN hV
  go_enter Tryd.func6, Tryd.ntmps6
  go_wp2
  go_loopw [2, 3, 4, 5, 6] (fun n ok n4 i r w' => ∃ (pos acc : Nat), w' = w.iter s pos ∧ n4 = .int .i64 acc ∧ acc + (runes (s.data.toList.drop pos)).length = N ∧ validD (s.data.toList.drop pos) = V ∧ acc ≤ pos ∧ pos ≤ s.size) (fun _ _ _ _ _ w' => s.size - w'.iterPos w.heap.size)
  case atStart => exact ⟨0, 0, rfl, rfl, by have := HN.out; omega, HV.out, Nat.le_refl _, Nat.zero_le _⟩
  case round =>
    obtain ⟨pos, acc, rfl, rfl, hc, hv, ha, hps⟩ := hrel
    by_cases hp : pos < s.size
    · obtain ⟨r, k, hd, hk1, hk2, -, h1, h2, h3⟩ := rune_at s pos hp
      have hnx : ∀ ty, (Instr.next (.pointer (some ⟨w.heap.size, 0, none⟩)) true ty).run Tryd.prog (w.iter s pos) = _ := fun ty => run_next_any w s pos ty hp
      rw [h1] at hc
      rw [h2] at hv
      rw [hd] at hnx
      simp only at hnx
      by_cases hr : r = 65533
      · subst hr
        have h3 := h3 rfl
        by_cases hk : k = 1
        · subst hk
          rw [if_pos ⟨rfl, rfl⟩] at hv
          subst hv
          have hpx := Tryd.strings_HasPrefix (s.extract pos s.size) ⟨#[239, 191, 189]⟩ (w.iter s (pos + 1))
          rw [show (⟨#[239, 191, 189]⟩ : ByteArray).data.toList = [239, 191, 189] from rfl, h3] at hpx
          clear hc h1 h2 h3 hd
          go_wp2_with (go_at_call 13; refine hpx.mono ?_; rintro e w' ⟨rfl, rfl⟩)
          go_ret2
          exact ⟨rfl, (by repeat (first | exact Below.refl _ _ | assumption | (refine Below.setCell ?_ (by (first | omega | (simp; done) | (simp; omega) | (simp at *; omega))) _) | (refine Below.alloc ?_ (by (first | omega | (simp; done) | (simp; omega) | (simp at *; omega))) _) | (refine Below.drew ?_) | (refine Gr.into _ ?_ (by (first | omega | (simp; done) | (simp; omega) | (simp at *; omega))))))⟩
        · rw [if_neg (by omega)] at hv
          have hpx := Tryd.strings_HasPrefix (s.extract pos s.size) ⟨#[239, 191, 189]⟩ (w.iter s (pos + k))
          rw [show (⟨#[239, 191, 189]⟩ : ByteArray).data.toList = [239, 191, 189] from rfl, h3, show (!decide (k = 1)) = true by simp [hk]] at hpx
          have HC := Lib.hid hc
          have HV2 := Lib.hid hv
          clear hc h1 h2 h3 hd hv
          go_wp2_with (go_at_call 13; refine hpx.mono ?_; rintro e w' ⟨rfl, rfl⟩)
          go_roundw
          case rel => exact ⟨pos + k, acc + 1, rfl, by go_num, by rw [← HC.out]; simp; omega, HV2.out, by omega, by omega⟩
          case measure => simp; omega
      · have hr1 : ((r : Int) == 65533) = false := by simp; omega
        rw [if_neg (by omega)] at hv
        have HC := Lib.hid hc
        have HV2 := Lib.hid hv
        clear hc h1 h2 h3 hd hv
        go_wp2
        go_roundw
        case rel => exact ⟨pos + k, acc + 1, rfl, by go_num, by rw [← HC.out]; simp; omega, HV2.out, by omega, by omega⟩
        case measure => simp; omega
    · have hnx : ∀ ty, (Instr.next (.pointer (some ⟨w.heap.size, 0, none⟩)) true ty).run Tryd.prog (w.iter s pos) = _ := fun ty => run_next_end w s pos ty hp
      have h0 : s.data.toList.drop pos = [] := List.drop_eq_nil_of_le (by rw [data_length]; omega)
      rw [h0] at hc hv
      have e1 : acc = N := hc
      have e2 : V = true := hv.symm
      subst e1 e2
      clear hc hv
      go_wp2
      go_ret2
      exact ⟨rfl, (by repeat (first | exact Below.refl _ _ | assumption | (refine Below.setCell ?_ (by (first | omega | (simp; done) | (simp; omega) | (simp at *; omega))) _) | (refine Below.alloc ?_ (by (first | omega | (simp; done) | (simp; omega) | (simp at *; omega))) _) | (refine Below.drew ?_) | (refine Gr.into _ ?_ (by (first | omega | (simp; done) | (simp; omega) | (simp at *; omega))))))⟩
end Go.Proofs.YtjhdgpboofcelaaDoor
