/- The laws of layer 4: shown, cut. -/
import Derived.Test.YtjhdgpboofcelaaGreatE1
namespace Go.Proofs.YtjhdgpboofcelaaGreat
open Go.RowKit
open Go.Lib (decodeL validD)

/-- The texts that 'shown' knows. -/
def sh1 : List UInt8 := [98, 61, 120, 92, 121, 44, 97, 61, 195, 169, 92, 44]
def sh2 : List UInt8 := [97, 61, 49, 44, 97, 61, 50]
def sh3 : List UInt8 := [195, 169, 44]
def shB : BLab := (⟨#[98]⟩, ⟨#[120, 121]⟩)
def shA : BLab := (⟨#[97]⟩, ⟨#[195, 169, 44]⟩)
theorem read1 : readB sh1 = some [shB, shA] := by kernel_rfl
theorem read2 : readB sh2 = some [(⟨#[97]⟩, ⟨#[49]⟩), (⟨#[97]⟩, ⟨#[50]⟩)] := by kernel_rfl
theorem valid3 : validD sh3 = true := by kernel_rfl
theorem runes3 : (runes sh3).length = 2 := by kernel_rfl
theorem sort_two (x y : BLab) : sortA [x, y] = if ltOf cfB y x then [y, x] else [x, y] := by
  unfold sortA Sort.insertionSort
  rw [show [x, y].length = 2 from rfl, Sort.insOuter, if_pos (by omega), Sort.insOuter, if_neg (by omega)]
  simp only [Sort.insInner, Nat.zero_add, Nat.lt_irrefl, gt_iff_lt, Nat.zero_lt_one, decide_true, Bool.true_and]
  cases h : ltOf cfB y x
  · simp [h]
  · simp [h]
    rfl
theorem parse1 : parseA sh1 = some [shA, shB] := by
  unfold parseA
  rw [read1]
  show (if rightA (sortA [shB, shA]) then some (sortA [shB, shA]) else none) = _
  rw [sort_two, if_pos (by kernel_rfl), if_pos (by kernel_rfl)]
theorem parse2 : parseA sh2 = none := by
  unfold parseA
  rw [read2]
  show (if rightA (sortA _) then some (sortA _) else none) = _
  rw [sort_two]
  kernel_rfl
theorem right1 : rightA [shA, shB] = true := by kernel_rfl
theorem text1 : textA [shA, shB] = [97, 61, 195, 169, 92, 44, 44, 98, 61, 120, 121] := by kernel_rfl
theorem seen_parse (w : World) : Calls Tryz.prog 11 #[.string ⟨#[98, 61, 120, 92, 121, 44, 97, 61, 195, 169, 92, 44]⟩] w fun e w' => Below w.heap.size w w' ∧ ∃ v, e = .returned (.tuple #[v, .int .i64 0]) ∧ LabelsAt w'.heap.size w' v [shA, shB] := by
  refine (parse_any 20 sortLaw_few ⟨#[98, 61, 120, 92, 121, 44, 97, 61, 195, 169, 92, 44]⟩ w (by decide) (fun L h => ?_)).mono ?_
  · have h2 : some L = some [shB, shA] := h.symm.trans read1
    rw [Option.some.inj h2]
    decide
  · rintro e w' ⟨hB, ⟨h1, -⟩ | ⟨L, v, h1, h2, h3⟩⟩
    · have : parseA sh1 = none := h1
      rw [parse1] at this
      cases this
    · have : parseA sh1 = some L := h1
      rw [parse1] at this
      obtain rfl := Option.some.inj this
      exact ⟨hB, v, h2, h3⟩
theorem seen_wrong (w : World) : Calls Tryz.prog 11 #[.string ⟨#[97, 61, 49, 44, 97, 61, 50]⟩] w fun e w' => e = .returned (.tuple #[.slice none 0 0, .int .i64 40]) ∧ Below w.heap.size w w' := by
  refine (parse_any 20 sortLaw_few ⟨#[97, 61, 49, 44, 97, 61, 50]⟩ w (by decide) (fun L h => ?_)).mono ?_
  · have h2 : some L = some [(⟨#[97]⟩, ⟨#[49]⟩), (⟨#[97]⟩, ⟨#[50]⟩)] := h.symm.trans read2
    rw [Option.some.inj h2]
    decide
  · rintro e w' ⟨hB, ⟨-, h2⟩ | ⟨L, v, h1, h2, h3⟩⟩
    · exact ⟨h2, hB⟩
    · have : parseA sh2 = some L := h1
      rw [parse2] at this
      cases this
theorem seen_runes (w : World) : Calls Tryz.prog 14 #[.string ⟨#[195, 169, 44]⟩] w fun e w' => e = .returned (.tuple #[.int .i64 2, .bool true]) ∧ Below w.heap.size w w' := by
  have h := runes_any ⟨#[195, 169, 44]⟩ w (by decide)
  have h1 : validD (⟨#[195, 169, 44]⟩ : ByteArray).data.toList = true := valid3
  have h2 : (runes (⟨#[195, 169, 44]⟩ : ByteArray).data.toList).length = 2 := runes3
  rw [h1, if_pos rfl, h2] at h
  exact h
theorem seen_text (v : Value) (w : World) (hL : LabelsAt w.heap.size w v [shA, shB]) : Calls Tryz.prog 18 #[v] w fun e w' => e = .returned (.tuple #[.string ⟨#[97, 61, 195, 169, 92, 44, 44, 98, 61, 120, 121]⟩, .int .i64 0]) ∧ Below w.heap.size w w' := by
  have h := text_any v _ w hL
  rw [right1, text1] at h
  exact h
set_option maxRecDepth 100000 in
theorem shown_any (w : World) : Calls Tryz.prog 10 #[] w fun e w' => e = .returned (.bool true) ∧ Below w.heap.size w w' := by
  go_enter Tryz.func10, Tryz.ntmps10
  go_wp2_with fail
  refine (seen_parse _).mono ?_
  rintro e w1 ⟨hB1, v, rfl, hL⟩
  go_wp2_with fail
  refine (seen_text v w1 hL).mono ?_
  rintro e w2 ⟨rfl, hB2⟩
  go_wp2_with fail
  refine (seen_wrong _).mono ?_
  rintro e w3 ⟨rfl, hB3⟩
  go_wp2_with fail
  refine (seen_runes _).mono ?_
  rintro e w4 ⟨rfl, hB4⟩
  go_wp2_with fail
  go_ret
  have h1 := hB1.size
  have h2 := hB2.size
  have h3 := hB3.size
  exact ⟨rfl, ((hB1.trans (hB2.mono h1)).trans (hB3.mono (by omega))).trans (hB4.mono (by omega))⟩
/-- The first six hundred bytes. -/
def cutB (s : ByteArray) : ByteArray := s.extract 0 (min s.size 600)
theorem cut_any (s : ByteArray) (w : World) (hs : s.size ≤ 9223372036854775807) : Calls Tryz.prog 12 #[.string s] w fun e w' => e = .returned (.string (cutB s)) ∧ Below w.heap.size w w' := by
  go_enter Tryz.func12, Tryz.ntmps12
  go_wp2_with fail
  go_ret
  refine ⟨?_, Below.refl _ _⟩
  unfold cutB
  rw [show (min (s.size : Int) 600).toNat = min s.size 600 by omega]
  rfl
end Go.Proofs.YtjhdgpboofcelaaGreat
