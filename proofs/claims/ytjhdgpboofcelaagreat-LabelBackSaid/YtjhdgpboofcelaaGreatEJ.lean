/- LabelTurns: the walk. -/
import Derived.Test.YtjhdgpboofcelaaGreatEI
namespace Go.Proofs.YtjhdgpboofcelaaGreat
open Go.RowKit

/-- Labels whose texts are few bytes. -/
def Tiny (L : List BLab) : Prop := ∀ x ∈ L, x.1.size ≤ 1000 ∧ x.2.size ≤ 1000
theorem cut_tiny (J : List BLab) : Tiny (J.map cutLab) := by
  intro x hx
  obtain ⟨y, -, rfl⟩ := List.mem_map.1 hx
  have := cutLab_size y
  omega
theorem empty_of (S : ByteArray) : S.toList.isEmpty = decide (S.data.toList = []) := by
  rw [Lib.toList_data]
  cases S.data.toList <;> simp
/-- Parse of a set's text. -/
theorem parse_of (K L : List BLab) (S : ByteArray) (w : World) (h : rightA L = true) (hp : K.Perm L) (ht : Tiny L) (hS : S.data.toList = textA K) :
    Calls Tryz.prog 11 #[.string S] w fun e w' => Below w.heap.size w w' ∧ ∃ v, e = .returned (.tuple #[v, .int .i64 0]) ∧ LabelsAt w'.heap.size w' v L := by
  obtain ⟨h1, h2⟩ := parse_text K L h hp
  have h6 := rightA_short L h
  have hl : K.length ≤ 6 := by rw [hp.length_eq]; exact h6
  have hz := textA_size K (fun x hx => ht x (hp.mem_iff.1 hx))
  rw [← hS, data_length] at hz
  refine (parse_any 20 sortLaw_few S w (by omega) (fun L' h' => ?_)).mono ?_
  · rw [hS, h1] at h'
    obtain rfl := Option.some.inj h'
    omega
  · rintro e w' ⟨hB, ⟨h3, -⟩ | ⟨L', v, h3, h4, h5⟩⟩
    · rw [hS, h2] at h3; cases h3
    · rw [hS, h2] at h3
      obtain rfl := Option.some.inj h3
      exact ⟨hB, v, h4, h5⟩
set_option maxRecDepth 100000 in
set_option maxHeartbeats 2000000 in
theorem labelTurns_law (p : Option Addr) (len cap : Nat) (J : List BLab) (hn : J.length = min len 10) (w : World) (hc : CameAt w p J) :
    Calls Tryz.prog 5 #[.slice p len cap] w fun e w' => e = .returned (.bool true) ∧ Below w.heap.size w w' := by
  have hF : ∀ W, Below w.heap.size w W → Calls Tryz.prog 17 #[.slice p len cap] W fun e w' => Below W.heap.size W w' ∧ ∃ v, e = .returned v ∧ LabelsAt w'.heap.size w' v (J.map cutLab) := fun W hb => few_any p len cap J W hn (came_below hc hb)
  have hti := cut_tiny J
  generalize J.map cutLab = L at *
  clear hn hc
  go_enter Tryz.func5, Tryz.ntmps5
  go_wp2_with fail
  refine (shown_any _).mono ?_
  rintro e w1 ⟨rfl, B1⟩
  go_wp2_with fail
  refine (hF _ B1).mono ?_
  rintro e w2 ⟨B2, v, rfl, hL⟩
  have s1 := B1.size
  have s2 := B2.size
  have Bw2 := B1.trans (B2.mono s1)
  go_wp2_with fail
  refine (right_any v L w2 hL).mono ?_
  rintro e w3 ⟨rfl, B3⟩
  have Bw3 := Bw2.trans (B3.mono (by omega))
  have s3 : w.heap.size ≤ w3.heap.size := by have := B3.size; omega
  have hL3 := hL.at_ B3
  clear hF hL B1 B2 B3 Bw2 s1 s2 
  cases hr : rightA L
  · go_wp2_with fail
    go_ret
    exact ⟨rfl, Bw3⟩
  · obtain ⟨n1, n2, ⟨a, rfl, rfl⟩ | ⟨a, off, cp, rfl, ha, hcp, hcc⟩⟩ := id hL3
    · cases hr
    have h6 := rightA_short L hr
    have HC := Lib.hid hcc
    have HR := Lib.hid hr
    have HL := Lib.hid hL3
    have HW := Lib.hid Bw3
    have HTI := Lib.hid hti
    have HN := Lib.hid n1
    clear hcc hL3 n1 hr hti
    go_wp2_with fail
    go_loopw [4, 5] (fun s i wr => ∃ (k : Nat) (S : ByteArray), k ≤ L.length ∧ i = .int .i64 k ∧ s = .string S ∧ S.data.toList = textA (L.take k).reverse ∧ Below w3.heap.size w3 wr)
      (fun _ i _ => L.length - (intOf i).toNat)
    case atStart => exact ⟨0, ⟨#[]⟩, by omega, rfl, rfl, rfl, Below.refl _ _⟩
    case round =>
      obtain ⟨k, S, hk, rfl, rfl, hS, hB⟩ := hrel
      have hBs := hB.size
      have hSz : S.size ≤ 30000 := by
        have h1 := textA_size (L.take k).reverse (fun x hx => HTI.out x (List.mem_of_mem_take (List.mem_reverse.1 hx)))
        rw [← hS, data_length, List.length_reverse, List.length_take] at h1
        omega
      by_cases hkL : k < L.length
      · have hkl : (k : Int) < L.length := by omega
        have hone := right_one L HR.out k hkL
        have hlab : ∀ W, Below wr.heap.size wr W → LabelsAt W.heap.size W (.slice (some ⟨a, off + k * 2, none⟩) 1 (cp - k)) [L[k]] := fun W hb => by
          refine ⟨fun x hx => ?_, by simp, .inr ⟨a, off + k * 2, cp - k, rfl, by have := hb.size; omega, by simp; omega, fun i hi => ?_⟩⟩
          · obtain rfl : x = L[k] := by simpa using hx
            exact HN.out _ (List.getElem_mem _)
          · obtain rfl : i = 0 := by simp at hi; exact hi
            have hc := HC.out k hkL
            rw [← hB.cell (p := ⟨a, off + k * 2, none⟩) ha, ← hB.cell (p := ⟨a, off + k * 2 + 1, none⟩) ha, ← hb.cell (p := ⟨a, off + k * 2, none⟩) (by show a < wr.heap.size; omega), ← hb.cell (p := ⟨a, off + k * 2 + 1, none⟩) (by show a < wr.heap.size; omega)] at hc
            simpa using hc
        have htx := fun W hb => text_any _ _ W (hlab W hb)
        rw [hone] at htx
        simp only [if_true] at htx
        have hturn := textA_turn L k hkL
        rw [← hS] at hturn
        have hem := empty_of S
        have htz := textA_size [L[k]] (fun x hx => by
          obtain rfl : x = L[k] := by simpa using hx
          exact HTI.out _ (List.getElem_mem _))
        have hem2 : decide (S.data.toList = []) = decide (k = 0) := by
          by_cases h0 : k = 0
          · subst h0; rw [hS]; simp [textA, Lib.join]
          · have : S.data.toList ≠ [] := by
              rw [hS]
              refine textA_ne _ fun h => ?_
              have := congrArg List.length h
              rw [List.length_reverse, List.length_take, List.length_nil] at this
              omega
            simp [h0, this]
        rw [hem2] at hem
        generalize hT : (⟨(textA [L[k]]).toArray⟩ : ByteArray) = T at *
        have hTd : T.data.toList = textA [L[k]] := by rw [← hT]
        rw [← hTd] at hturn htz
        have hTz : T.size ≤ 4000 := by rw [data_length] at htz; simpa using htz
        have HTU := Lib.hid hturn
        have HSS := Lib.hid hS
        clear hturn hTd hT htz hlab hone hem2 hS
        have f1 : (⟨#[44]⟩ : ByteArray).size + S.size ≤ 140737488355328 := by have : (⟨#[44]⟩ : ByteArray).size = 1 := rfl; omega
        have f2 : T.size + ((⟨#[44]⟩ : ByteArray) ++ S).size ≤ 140737488355328 := by have : (⟨#[44]⟩ : ByteArray).size = 1 := rfl; rw [ByteArray.size_append]; omega
        have f3 : T.size + S.size ≤ 140737488355328 := by omega
        have m1 : ((k : Int) + 1).toNat = k + 1 := by omega
        have m2 : (k : Int) + 1 ≤ cp := by omega
        have m3 : k + 1 - k = 1 := by omega
        by_cases h0 : k = 0
        · have hk0 : decide (k = 0) = true := decide_eq_true h0
          rw [hk0] at hem
          rw [if_pos h0] at HTU
          have HK := Lib.hid h0
          clear h0 hk0
          have HTU' : textA (L.take (k + 1)).reverse = T.data.toList ++ S.data.toList := by
            rw [HTU.out, HSS.out, HK.out]
            simp [textA, Lib.join]
          have HTV := Lib.hid HTU'
          clear HTU' HTU HSS
          go_wp2_with fail
          refine (htx _ (Below.refl _ _)).mono ?_
          rintro e w4 ⟨rfl, B4⟩
          go_wp2_with fail
          go_roundw
          case rel => exact ⟨k + 1, T ++ S, by omega, by go_num, rfl, by rw [HTV.out, data_append], hB.trans (B4.mono hBs)⟩
          case measure => simp [intOf]; omega
        · have hk0 : decide (k = 0) = false := decide_eq_false h0
          rw [hk0] at hem
          rw [if_neg h0] at HTU
          have HTU' : textA (L.take (k + 1)).reverse = (T ++ ((⟨#[44]⟩ : ByteArray) ++ S)).data.toList := by
            rw [HTU.out, data_append, data_append]
          have HTV := Lib.hid HTU'
          clear HTU' HTU HSS h0 hk0
          go_wp2_with fail
          refine (htx _ (Below.refl _ _)).mono ?_
          rintro e w4 ⟨rfl, B4⟩
          go_wp2_with fail
          go_roundw
          case rel => exact ⟨k + 1, T ++ ((⟨#[44]⟩ : ByteArray) ++ S), by omega, by go_num, rfl, by rw [HTV.out], hB.trans (B4.mono hBs)⟩
          case measure => simp [intOf]; omega
      · have hkl : ¬ (k : Int) < L.length := by omega
        rw [List.take_of_length_le (by omega)] at hS
        have hP := parse_of L.reverse L S wr HR.out (List.reverse_perm L) HTI.out hS
        have hLw := (HL.out.below hB (Nat.le_refl _)).mono hBs
        clear hS
        go_wp2_with fail
        refine hP.mono ?_
        rintro e w4 ⟨B4, v, rfl, hv⟩
        have C4 := hB.trans (B4.mono hBs)
        have hL4 := hLw.at_ B4
        have hSa := rsame_any v (.slice (some ⟨a, off, none⟩) L.length cp) L L w4 hv hL4
        rw [decide_eq_true rfl] at hSa
        have s4 : w.heap.size ≤ w4.heap.size := by have := B4.size; omega
        clear hv hL4 hLw hP
        go_wp2_with fail
        refine hSa.mono ?_
        rintro e w5 ⟨rfl, B5⟩
        go_wp2_with fail
        go_ret
        exact ⟨rfl, (HW.out.trans (C4.mono s3)).trans (B5.mono s4)⟩
end Go.Proofs.YtjhdgpboofcelaaGreat
