/- The references: Text. -/
import Derived.Test.YtjhdgpboofcelaaGreatEE
import Derived.Laws.IdiomStrings
namespace Go.Proofs.YtjhdgpboofcelaaGreat
open Go.RowKit

theorem join_snoc (xs : List (List UInt8)) (x sep : List UInt8) : Lib.join (xs ++ [x]) sep = if xs = [] then x else Lib.join xs sep ++ sep ++ x := by
  cases xs with
  | nil => simp [Lib.join]
  | cons a r =>
    rw [if_neg (by simp), List.cons_append, Lib.join_cons, Lib.join_cons]
    simp [Lib.joinTail]
def pre (k : Nat) : List UInt8 := if k = 0 then [] else [44]
theorem textA_take (L : List BLab) (k : Nat) (h : k < L.length) : textA (L.take (k + 1)) = textA (L.take k) ++ pre k ++ L[k].1.data.toList ++ [61] ++ esc L[k].2.data.toList := by
  unfold textA pre
  rw [List.take_succ_eq_append_getElem h, List.map_append, List.map_singleton, join_snoc]
  have he : (labT L[k]).data.toList = L[k].1.data.toList ++ [61] ++ esc L[k].2.data.toList := by
    unfold labT
    simp
  by_cases h0 : k = 0
  · subst h0
    simp [he, Lib.join]
  · have hne : ¬ (L.take k).map (fun x => (labT x).data.toList) = [] := by
      rw [List.map_eq_nil_iff, List.take_eq_nil_iff]
      rintro (h1 | h1)
      · exact h0 h1
      · subst h1; simp at h
    rw [if_neg hne, if_neg h0, he]
    simp
theorem conv92 (W : World) : (convert 66 9 (.slice (some ⟨W.heap.size, 0, none⟩) 1 1)).run Tryz.prog (W.alloc (.cells #[.int .u8 92] 5)) = .ok (.string ⟨#[92]⟩) (W.alloc (.cells #[.int .u8 92] 5)) := by
  refine run_convert_bytes_back (W.alloc (.cells #[.int .u8 92] 5)) 66 9 5 ⟨W.heap.size, 0, none⟩ 1 [92] Tryz.underlying66 Tryz.underlying5 Tryz.underlying9 (fun j hj => ?_)
  obtain rfl : j = 0 := by simp at hj; exact hj
  simp [Addr.add]
set_option maxHeartbeats 2000000 in
set_option maxRecDepth 100000 in
theorem rtext_any (v : Value) (L : List BLab) (w : World) (hL : LabelsAt w.heap.size w v L) (hsh : Short L) :
    Calls Tryz.prog 20 #[v] w fun e w' => e = .returned (.tuple #[.string (if rightA L then ⟨(textA L).toArray⟩ else ⟨#[]⟩), .int .i64 (if rightA L then 0 else 40)]) ∧ Below w.heap.size w w' := by
  have hR := rright_any v L w hL hsh
  have h6 := rightA_short L
  obtain ⟨n1, p, cp, rfl, hp⟩ := hL.form
  generalize rightA L = R at *
  cases R
  · clear h6 hp hL
    go_enter Tryz.func20, Tryz.ntmps20
    go_wp2_with fail
    refine hR.mono ?_
    rintro e w1 ⟨rfl, hB⟩
    go_wp2_with fail
    go_ret2
    exact ⟨rfl, hB⟩
  · have h6 := h6 rfl
    clear hL
    have hcv := conv92
    go_enter Tryz.func20, Tryz.ntmps20
    go_wp2_with fail
    refine hR.mono ?_
    rintro e w1 ⟨rfl, hB1⟩
    have s1 := hB1.size
    clear hR
    go_wp2_with fail
    go_loopw [4, 5] (fun s i wr => ∃ (k : Nat) (S : ByteArray), k ≤ L.length ∧ i = .int .i64 k ∧ s = .string S ∧ S.data.toList = textA (L.take k) ∧ S.size ≤ k * 400000 ∧ Below w.heap.size w wr)
      (fun _ i _ => L.length - (intOf i).toNat)
    case atStart => exact ⟨0, ⟨#[]⟩, by omega, rfl, rfl, rfl, by decide, hB1⟩
    case round =>
      obtain ⟨k, S, hk, rfl, rfl, hS, hSz, hB⟩ := hrel
      have hBs := hB.size
      by_cases hkL : k < L.length
      · have hkl : (k : Int) < L.length := by omega
        obtain ⟨a, off, rfl, ha, hcp, hcc⟩ := hp (by rintro rfl; simp at hkL)
        have hal : a < wr.heap.size := by omega
        obtain ⟨c0, c1⟩ := hcc k hkL
        rw [← hB.cell (p := ⟨a, off + k * 2, none⟩) ha] at c0
        rw [← hB.cell (p := ⟨a, off + k * 2 + 1, none⟩) ha] at c1
        have sh := hsh L[k] (List.getElem_mem _)
        have ht := textA_take L k hkL
        rcases hLk : L[k] with ⟨x1, x2⟩
        rw [hLk] at c0 c1 sh ht
        simp only at c0 c1 sh ht
        rw [← hS] at ht
        have HT := Lib.hid ht
        have HP := Lib.hid hp
        have HSH := Lib.hid hsh
        clear hp hcc hLk hS ht hsh
        -- what stands ahead of the value
        obtain ⟨T, hTd, hTz, hTh⟩ : ∃ T : ByteArray, T.data.toList = S.data.toList ++ pre k ++ x1.data.toList ++ [61] ∧ T.size ≤ S.size + x1.size + 2 ∧ ((k = 0 → T = S ++ x1 ++ ⟨#[61]⟩) ∧ (0 < k → T = S ++ ⟨#[44]⟩ ++ x1 ++ ⟨#[61]⟩)) := by
          by_cases h0 : k = 0
          · refine ⟨S ++ x1 ++ ⟨#[61]⟩, ?_, ?_, fun _ => rfl, fun h => by omega⟩
            · simp [pre, h0]
            · rw [ByteArray.size_append, ByteArray.size_append]; have : (⟨#[61]⟩ : ByteArray).size = 1 := rfl; omega
          · refine ⟨S ++ ⟨#[44]⟩ ++ x1 ++ ⟨#[61]⟩, ?_, ?_, fun h => by omega, fun _ => rfl⟩
            · simp [pre, h0]
            · rw [ByteArray.size_append, ByteArray.size_append, ByteArray.size_append]; have : (⟨#[61]⟩ : ByteArray).size = 1 := rfl; have : (⟨#[44]⟩ : ByteArray).size = 1 := rfl; omega
        have g1 : S.size + (⟨#[44]⟩ : ByteArray).size ≤ 140737488355328 := by have : (⟨#[44]⟩ : ByteArray).size = 1 := rfl; omega
        have g2 : S.size + x1.size ≤ 140737488355328 := by omega
        have g3 : (S ++ ⟨#[44]⟩).size + x1.size ≤ 140737488355328 := by have : (⟨#[44]⟩ : ByteArray).size = 1 := rfl; rw [ByteArray.size_append]; omega
        have g4 : (S ++ x1).size + (⟨#[61]⟩ : ByteArray).size ≤ 140737488355328 := by have : (⟨#[61]⟩ : ByteArray).size = 1 := rfl; rw [ByteArray.size_append]; omega
        have g5 : (S ++ ⟨#[44]⟩ ++ x1).size + (⟨#[61]⟩ : ByteArray).size ≤ 140737488355328 := by have : (⟨#[61]⟩ : ByteArray).size = 1 := rfl; have : (⟨#[44]⟩ : ByteArray).size = 1 := rfl; rw [ByteArray.size_append, ByteArray.size_append]; omega
        have HG := Lib.hid hTh
        have HTD := Lib.hid hTd
        clear hTh hTd
        by_cases h0 : k = 0
        · have hTe := (HG.out.1 h0).symm
          have hkz : ¬ 0 < k := by omega
          have HK := Lib.hid h0
          clear h0
          go_wp2_with fail
          go_loopw [4, 7] (fun s j wi => ∃ (m : Nat) (U : ByteArray), m ≤ x2.size ∧ j = .int .i64 m ∧ s = .string U ∧ U.data.toList = T.data.toList ++ esc (x2.data.toList.take m) ∧ U.size ≤ T.size + 2 * m ∧ Below w.heap.size w wi)
            (fun _ j _ => x2.size - (intOf j).toNat)
          case atStart => exact ⟨0, T, by omega, rfl, rfl, by simp [esc], by omega, hB⟩
          case round =>
            obtain ⟨m, U, hm, rfl, rfl, hU, hUz, hBi⟩ := hrel
            have hBis := hBi.size
            by_cases hmx : m < x2.size
            · have hmi : (m : Int) < x2.size := by omega
              have hu := esc_take x2.data.toList m (by rw [data_length]; exact hmx)
              rw [byte_at x2 m hmx] at hu
              have hx2 : x2.extract m (m + 1) = (⟨#[x2[m]]⟩ : ByteArray) := by
                apply ByteArray.ext
                apply Array.toList_inj.1
                rw [Lib.extract_data, show m + 1 - m = 1 by omega, List.drop_eq_getElem_cons (by rw [data_length]; exact hmx), byte_at x2 m hmx]
                rfl
              have e1 : ∀ b : UInt8, (⟨#[b]⟩ : ByteArray).size = 1 := fun _ => rfl
              have f1 : U.size + (⟨#[92]⟩ : ByteArray).size ≤ 140737488355328 := by rw [e1]; omega
              have f2 : (U ++ ⟨#[92]⟩).size + (⟨#[x2[m]]⟩ : ByteArray).size ≤ 140737488355328 := by rw [ByteArray.size_append, e1, e1]; omega
              have f3 : U.size + (⟨#[x2[m]]⟩ : ByteArray).size ≤ 140737488355328 := by rw [e1]; omega
              have m1 : ((m : Int) + 1).toNat = m + 1 := by omega
              have m2 : (m : Int) + 1 ≤ x2.size := by omega
              have hr92 : x2[m].toNat = 92 ↔ x2[m] = 92 := ⟨fun h => UInt8.toNat_inj.1 h, fun h => by rw [h]; rfl⟩
              have hr44 : x2[m].toNat = 44 ↔ x2[m] = 44 := ⟨fun h => UInt8.toNat_inj.1 h, fun h => by rw [h]; rfl⟩
              have HU := Lib.hid hu
              have HUU := Lib.hid hU
              have HX := Lib.hid hx2
              clear hu hU hx2
              by_cases h44 : x2[m].toNat = 44
              · have d1 : ((x2[m].toNat : Int) == 44) = true := by simp; omega
                have he : escB x2[m] = [92, x2[m]] := by unfold escB; rw [if_pos (by exact Or.inr (hr44.1 h44))]
                have HE := Lib.hid he
                clear he hr92 hr44
                go_wp2_with fail
                rw [HX.out]
                go_roundw
                case rel => exact ⟨m + 1, U ++ ⟨#[92]⟩ ++ ⟨#[x2[m]]⟩, by omega, by go_num, rfl, by rw [HU.out, HE.out, data_append, data_append, HUU.out]; simp, by rw [ByteArray.size_append, ByteArray.size_append, e1, e1]; omega, hBi.alloc (by omega) _⟩
                case measure => simp [intOf]; omega
              · have d1 : ((x2[m].toNat : Int) == 44) = false := by simp; omega
                by_cases h92 : x2[m].toNat = 92
                · have d2 : ((x2[m].toNat : Int) == 92) = true := by simp; omega
                  have he : escB x2[m] = [92, x2[m]] := by unfold escB; rw [if_pos (by exact Or.inl (hr92.1 h92))]
                  have HE := Lib.hid he
                  clear he hr92 hr44
                  go_wp2_with fail
                  rw [HX.out]
                  go_roundw
                  case rel => exact ⟨m + 1, U ++ ⟨#[92]⟩ ++ ⟨#[x2[m]]⟩, by omega, by go_num, rfl, by rw [HU.out, HE.out, data_append, data_append, HUU.out]; simp, by rw [ByteArray.size_append, ByteArray.size_append, e1, e1]; omega, hBi.alloc (by omega) _⟩
                  case measure => simp [intOf]; omega
                · have d2 : ((x2[m].toNat : Int) == 92) = false := by simp; omega
                  have he : escB x2[m] = [x2[m]] := by
                    unfold escB
                    rw [if_neg (by rintro (h | h); exact h92 (hr92.2 h); exact h44 (hr44.2 h))]
                  have HE := Lib.hid he
                  clear he hr92 hr44
                  go_wp2_with fail
                  rw [HX.out]
                  go_roundw
                  case rel => exact ⟨m + 1, U ++ ⟨#[x2[m]]⟩, by omega, by go_num, rfl, by rw [HU.out, HE.out, data_append, HUU.out]; simp, by rw [ByteArray.size_append, e1]; omega, hBi⟩
                  case measure => simp [intOf]; omega
            · have hmi : ¬ (m : Int) < x2.size := by omega
              rw [List.take_of_length_le (by rw [data_length]; omega)] at hU
              have HU := Lib.hid hU
              clear hU
              go_wp2_with fail
              go_roundw
              case rel => exact ⟨k + 1, U, by omega, by go_num, rfl, by rw [HU.out, HTD.out, HT.out]; try simp, by omega, hBi⟩
              case measure => simp [intOf]; omega
        · have hTe := (HG.out.2 (by omega)).symm
          have hkz : 0 < k := by omega
          clear h0
          go_wp2_with fail
          go_loopw [4, 7] (fun s j wi => ∃ (m : Nat) (U : ByteArray), m ≤ x2.size ∧ j = .int .i64 m ∧ s = .string U ∧ U.data.toList = T.data.toList ++ esc (x2.data.toList.take m) ∧ U.size ≤ T.size + 2 * m ∧ Below w.heap.size w wi)
            (fun _ j _ => x2.size - (intOf j).toNat)
          case atStart => exact ⟨0, T, by omega, rfl, rfl, by simp [esc], by omega, hB⟩
          case round =>
            obtain ⟨m, U, hm, rfl, rfl, hU, hUz, hBi⟩ := hrel
            have hBis := hBi.size
            by_cases hmx : m < x2.size
            · have hmi : (m : Int) < x2.size := by omega
              have hu := esc_take x2.data.toList m (by rw [data_length]; exact hmx)
              rw [byte_at x2 m hmx] at hu
              have hx2 : x2.extract m (m + 1) = (⟨#[x2[m]]⟩ : ByteArray) := by
                apply ByteArray.ext
                apply Array.toList_inj.1
                rw [Lib.extract_data, show m + 1 - m = 1 by omega, List.drop_eq_getElem_cons (by rw [data_length]; exact hmx), byte_at x2 m hmx]
                rfl
              have e1 : ∀ b : UInt8, (⟨#[b]⟩ : ByteArray).size = 1 := fun _ => rfl
              have f1 : U.size + (⟨#[92]⟩ : ByteArray).size ≤ 140737488355328 := by rw [e1]; omega
              have f2 : (U ++ ⟨#[92]⟩).size + (⟨#[x2[m]]⟩ : ByteArray).size ≤ 140737488355328 := by rw [ByteArray.size_append, e1, e1]; omega
              have f3 : U.size + (⟨#[x2[m]]⟩ : ByteArray).size ≤ 140737488355328 := by rw [e1]; omega
              have m1 : ((m : Int) + 1).toNat = m + 1 := by omega
              have m2 : (m : Int) + 1 ≤ x2.size := by omega
              have hr92 : x2[m].toNat = 92 ↔ x2[m] = 92 := ⟨fun h => UInt8.toNat_inj.1 h, fun h => by rw [h]; rfl⟩
              have hr44 : x2[m].toNat = 44 ↔ x2[m] = 44 := ⟨fun h => UInt8.toNat_inj.1 h, fun h => by rw [h]; rfl⟩
              have HU := Lib.hid hu
              have HUU := Lib.hid hU
              have HX := Lib.hid hx2
              clear hu hU hx2
              by_cases h44 : x2[m].toNat = 44
              · have d1 : ((x2[m].toNat : Int) == 44) = true := by simp; omega
                have he : escB x2[m] = [92, x2[m]] := by unfold escB; rw [if_pos (by exact Or.inr (hr44.1 h44))]
                have HE := Lib.hid he
                clear he hr92 hr44
                go_wp2_with fail
                rw [HX.out]
                go_roundw
                case rel => exact ⟨m + 1, U ++ ⟨#[92]⟩ ++ ⟨#[x2[m]]⟩, by omega, by go_num, rfl, by rw [HU.out, HE.out, data_append, data_append, HUU.out]; simp, by rw [ByteArray.size_append, ByteArray.size_append, e1, e1]; omega, hBi.alloc (by omega) _⟩
                case measure => simp [intOf]; omega
              · have d1 : ((x2[m].toNat : Int) == 44) = false := by simp; omega
                by_cases h92 : x2[m].toNat = 92
                · have d2 : ((x2[m].toNat : Int) == 92) = true := by simp; omega
                  have he : escB x2[m] = [92, x2[m]] := by unfold escB; rw [if_pos (by exact Or.inl (hr92.1 h92))]
                  have HE := Lib.hid he
                  clear he hr92 hr44
                  go_wp2_with fail
                  rw [HX.out]
                  go_roundw
                  case rel => exact ⟨m + 1, U ++ ⟨#[92]⟩ ++ ⟨#[x2[m]]⟩, by omega, by go_num, rfl, by rw [HU.out, HE.out, data_append, data_append, HUU.out]; simp, by rw [ByteArray.size_append, ByteArray.size_append, e1, e1]; omega, hBi.alloc (by omega) _⟩
                  case measure => simp [intOf]; omega
                · have d2 : ((x2[m].toNat : Int) == 92) = false := by simp; omega
                  have he : escB x2[m] = [x2[m]] := by
                    unfold escB
                    rw [if_neg (by rintro (h | h); exact h92 (hr92.2 h); exact h44 (hr44.2 h))]
                  have HE := Lib.hid he
                  clear he hr92 hr44
                  go_wp2_with fail
                  rw [HX.out]
                  go_roundw
                  case rel => exact ⟨m + 1, U ++ ⟨#[x2[m]]⟩, by omega, by go_num, rfl, by rw [HU.out, HE.out, data_append, HUU.out]; simp, by rw [ByteArray.size_append, e1]; omega, hBi⟩
                  case measure => simp [intOf]; omega
            · have hmi : ¬ (m : Int) < x2.size := by omega
              rw [List.take_of_length_le (by rw [data_length]; omega)] at hU
              have HU := Lib.hid hU
              clear hU
              go_wp2_with fail
              go_roundw
              case rel => exact ⟨k + 1, U, by omega, by go_num, rfl, by rw [HU.out, HTD.out, HT.out]; try simp, by omega, hBi⟩
              case measure => simp [intOf]; omega
      · have hkl : ¬ (k : Int) < L.length := by omega
        rw [List.take_of_length_le (by omega)] at hS
        have hSe : S = ⟨(textA L).toArray⟩ := ByteArray.ext (Array.toList_inj.1 (by rw [hS]))
        have HS := Lib.hid hSe
        clear hp hS hSe hsh
        go_wp2_with fail
        go_ret2
        exact ⟨by rw [HS.out]; rfl, hB⟩
end Go.Proofs.YtjhdgpboofcelaaGreat
