/- Layer 5: shown. -/
import Derived.Test.YtjhdgpboofcelaaDoorSL
namespace Go.Proofs.YtjhdgpboofcelaaDoor
open Go.RowKit
open Go.Lib (decodeL validD)
attribute [local go_sem] Oper.semAt_some

abbrev labX : BLab := (⟨#[97]⟩, ⟨#[97, 120, 120, 195, 169, 121]⟩)
theorem termsOk_one (x : List UInt8 × List UInt8) (h : okA x = true) : termsOk [x] = true := by
  have e : namesA [x] = [x.1] := by
    unfold namesA
    simp [h]
  unfold termsOk
  rw [e, sortS_one]
  simp [h, Lib.compact, Lib.compactUpTo, Lib.keeps]
theorem scope1 : rightSA [97, 61, 97, 42, 195, 169, 63] = true := by
  have e : termsA [97, 61, 97, 42, 195, 169, 63] = [([97], [97, 42, 195, 169, 63])] := by decide +kernel
  unfold rightSA
  rw [e, termsOk_one _ (by decide +kernel)]
  rfl
theorem scope2 : rightSA [98, 61, 42] = true := by
  have e : termsA [98, 61, 42] = [([98], [42])] := by decide +kernel
  unfold rightSA
  rw [e, termsOk_one _ (by decide +kernel)]
  rfl
theorem set1 : rightA [labX] = true := by
  rw [rightA_one]
  decide +kernel
theorem get1 : getA [labX] ⟨#[97]⟩ = some labX.2 := by
  unfold getA
  simp [isN, Lib.toList_data]
theorem get2 : getA [labX] ⟨#[98]⟩ = none := by
  unfold getA
  simp [isN, Lib.toList_data]
theorem mean1 : meansA [97, 61, 97, 42, 195, 169, 63] [labX] = (true, 0) := by
  have e : termsA [97, 61, 97, 42, 195, 169, 63] = [([97], [97, 42, 195, 169, 63])] := by decide +kernel
  have h : meansT [labX] ([97], [97, 42, 195, 169, 63]) = true := by
    unfold meansT
    simp only [get1]
    decide +kernel
  unfold meansA
  rw [scope1, set1, e]
  simp [h]
theorem mean2 : meansA [98, 61, 42] [labX] = (false, 0) := by
  have e : termsA [98, 61, 42] = [([98], [42])] := by decide +kernel
  have h : meansT [labX] ([98], [42]) = false := by
    unfold meansT
    simp only [get2]
  unfold meansA
  rw [scope2, set1, e]
  simp [h]
theorem fit1 : fitsA [126, 42] [42] = true := by decide +kernel
theorem fit2 : fitsA [126, 42] [120] = false := by decide +kernel
set_option maxRecDepth 100000 in
set_option maxHeartbeats 2000000 in
theorem shown5_any (w : World) : Calls Tryd.prog 5 #[] w fun e w' => e = .returned (.bool true) ∧ Below w.heap.size w w' := by
  have hM := fun (s : ByteArray) (hs : s.size ≤ 1000000) (v : Value) (W : World) (hL : LabelsAt W.heap.size W v [labX]) => means_any s v [labX] W hs hL (fun x hx => by simp at hx; subst hx; decide)
  have h1 := hM ⟨#[97, 61, 97, 42, 195, 169, 63]⟩ (by decide)
  have h2 := hM ⟨#[98, 61, 42]⟩ (by decide)
  have h3 := fun W => fits_any ⟨#[126, 42]⟩ ⟨#[42]⟩ W (by decide) (by decide)
  have h4 := fun W => fits_any ⟨#[126, 42]⟩ ⟨#[120]⟩ W (by decide) (by decide)
  rw [show (⟨#[97, 61, 97, 42, 195, 169, 63]⟩ : ByteArray).data.toList = [97, 61, 97, 42, 195, 169, 63] from rfl, mean1] at h1
  rw [show (⟨#[98, 61, 42]⟩ : ByteArray).data.toList = [98, 61, 42] from rfl, mean2] at h2
  simp only [show (⟨#[126, 42]⟩ : ByteArray).data.toList = [126, 42] from rfl, show (⟨#[42]⟩ : ByteArray).data.toList = [42] from rfl, show (⟨#[120]⟩ : ByteArray).data.toList = [120] from rfl, fit1, fit2] at h3 h4
  have hlab := label_made w labX.1 labX.2 (by decide) (by decide)
  have hBA : Below w.heap.size w (w.alloc (.cells #[.string labX.1, .string labX.2] 37)) := (Below.refl _ _).alloc (Nat.le_refl _) _
  have H1 := Lib.hid (h1 _ _ hlab)
  have H2 := Lib.hid h2
  have HL := Lib.hid hlab
  clear h1 h2 hM hlab
  go_enter Tryd.func5, Tryd.ntmps5
  go_wp2_with fail
  refine H1.out.mono ?_
  rintro e w1 ⟨rfl, hB1⟩
  go_wp2_with fail
  refine (H2.out _ w1 (HL.out.at_ hB1)).mono ?_
  rintro e w2 ⟨rfl, hB2⟩
  go_wp2_with fail
  refine (h3 _).mono ?_
  rintro e w3 ⟨rfl, hB3⟩
  go_wp2_with fail
  refine (h4 _).mono ?_
  rintro e w4 ⟨rfl, hB4⟩
  go_wp2_with fail
  go_ret
  have s1 := hB1.size
  have s2 := hB2.size
  have s3 := hB3.size
  exact ⟨rfl, (((hBA.trans (hB1.mono hBA.size)).trans (hB2.mono (by simp at s1; omega))).trans (hB3.mono (by simp at s1; omega))).trans (hB4.mono (by simp at s1; omega))⟩
end Go.Proofs.YtjhdgpboofcelaaDoor
