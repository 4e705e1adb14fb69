/- LabelGets: the plain law and the walk. -/
import Derived.Test.YtjhdgpboofcelaaGreatE5
namespace Go.Proofs.YtjhdgpboofcelaaGreat
open Go.RowKit

theorem rising_cons (a b : BLab) (l : List BLab) : risingB (a :: b :: l) = (lessBy a.1 b.1 && risingB (b :: l)) := by
  show ((a, b) :: pairsL (b :: l)).all _ = _
  rw [List.all_cons]
  rfl
/-- Labels whose names rise. -/
abbrev Rises (L : List BLab) : Prop := L.Pairwise fun x y => x.1.toList < y.1.toList
theorem rises_of : ∀ L : List BLab, risingB L = true → Rises L
  | [], _ => .nil
  | [x], _ => by simp [Rises]
  | a :: b :: l, h => by
    rw [rising_cons] at h
    simp only [Bool.and_eq_true] at h
    obtain ⟨h1, h2⟩ := h
    unfold lessBy at h1
    rw [bytesLess_eq] at h1
    have hab := of_decide_eq_true h1
    have ih := rises_of (b :: l) h2
    refine List.Pairwise.cons ?_ ih
    intro c hc
    rcases List.mem_cons.1 hc with rfl | hc
    · exact hab
    · exact List.lt_trans hab ((List.pairwise_cons.1 ih).1 c hc)
theorem rising_of : ∀ L : List BLab, Rises L → risingB L = true
  | [], _ => rfl
  | [x], _ => rfl
  | a :: b :: l, h => by
    rw [rising_cons]
    obtain ⟨h1, h2⟩ := List.pairwise_cons.1 h
    rw [rising_of (b :: l) h2, Bool.and_true]
    unfold lessBy
    rw [bytesLess_eq]
    exact decide_eq_true (h1 b (by simp))
theorem right_rises (L : List BLab) (h : rightA L = true) : Rises L := by
  unfold rightA at h
  simp only [Bool.and_eq_true] at h
  exact rises_of L h.2
theorem find_rises : ∀ (L : List BLab), Rises L → ∀ (i : Nat) (hi : i < L.length), L.find? (isN L[i].1) = some L[i]
  | [], _, i, hi => by simp at hi
  | x :: L, h, 0, hi => by simp [isN]
  | x :: L, h, i + 1, hi => by
    obtain ⟨h1, h2⟩ := List.pairwise_cons.1 h
    have hi2 : i < L.length := by simpa using hi
    have h3 := h1 L[i] (List.getElem_mem _)
    have hne : isN L[i].1 x = false := by
      unfold isN
      cases hq : (x.1.toList == L[i].1.toList)
      · rfl
      · rw [eq_of_beq hq] at h3
        exact absurd h3 (List.lt_irrefl _)
    simp only [List.getElem_cons_succ]
    rw [List.find?_cons, hne]
    exact find_rises L h2 i hi2
theorem getA_rises (L : List BLab) (h : Rises L) (i : Nat) (hi : i < L.length) : getA L L[i].1 = some L[i].2 := by
  unfold getA
  rw [find_rises L h i hi]
  rfl
theorem getA_any (L : List BLab) (name : ByteArray) : (∃ v, getA L name = some v ∧ L.any (isN name) = true) ∨ (getA L name = none ∧ L.any (isN name) = false) := by
  unfold getA
  cases h : L.find? (isN name) with
  | some x =>
    refine .inl ⟨x.2, rfl, ?_⟩
    exact List.any_eq_true.2 ⟨x, List.mem_of_find?_eq_some h, List.find?_some h⟩
  | none =>
    refine .inr ⟨rfl, ?_⟩
    have := List.find?_eq_none.1 h
    rw [List.any_eq_false]
    exact this
theorem take_any (p : BLab → Bool) (L : List BLab) (k : Nat) (h : k < L.length) : (L.take (k + 1)).any p = ((L.take k).any p || p L[k]) := by
  rw [List.take_succ_eq_append_getElem h, List.any_append]
  simp
set_option maxRecDepth 100000 in
set_option maxHeartbeats 1000000 in
theorem labelGets_law (p : Option Addr) (len cap : Nat) (J : List BLab) (hn : J.length = min len 10) (w : World) (hc : CameAt w p J) (name : ByteArray) :
    Calls Tryz.prog 8 #[.slice p len cap, .string name] w fun e w' => e = .returned (.bool true) ∧ Below w.heap.size w w' := by
  have hF : ∀ W, Below w.heap.size w W → Calls Tryz.prog 17 #[.slice p len cap] W fun e w' => Below W.heap.size W w' ∧ ∃ v, e = .returned v ∧ LabelsAt w'.heap.size w' v (J.map cutLab) := fun W hb => few_any p len cap J W hn (came_below hc hb)
  generalize J.map cutLab = L at *
  clear hn hc
  go_enter Tryz.func8, Tryz.ntmps8
  go_wp2_with fail
  refine (shown_any _).mono ?_
  rintro e w1 ⟨rfl, B1⟩
  go_wp2_with fail
  refine (hF _ B1).mono ?_
  rintro e w2 ⟨B2, v, rfl, hL⟩
  have s1 := B1.size
  have s2 := B2.size
  have Bw2 := B1.trans (B2.mono s1)
  go_wp2_with fail
  refine (right_any v L w2 hL).mono ?_
  rintro e w3 ⟨rfl, B3⟩
  have Bw3 := Bw2.trans (B3.mono (by omega))
  have s3 : w.heap.size ≤ w3.heap.size := by have := B3.size; omega
  have hL3 := hL.at_ B3
  clear hF hL B1 B2 B3 Bw2 s1 s2 
  cases hr : rightA L
  · go_wp2_with fail
    go_ret
    exact ⟨rfl, Bw3⟩
  · have hR := right_rises L hr
    obtain ⟨n1, n2, ⟨a, rfl, rfl⟩ | ⟨a, off, cp, rfl, ha, hcp, hcc⟩⟩ := id hL3
    · cases hr
    · have hlen : (L.length : Int) ≤ 1000000 := by omega
      have HC := Lib.hid hcc
      have HR := Lib.hid hR
      have HL := Lib.hid hL3
      have HW := Lib.hid Bw3
      have hal := ha
      clear hcc hR hL3 n1 hr
      go_wp2_with fail
      go_loopw [6, 7] (fun inn i wr => ∃ k : Nat, k ≤ L.length ∧ i = .int .i64 k ∧ inn = .bool ((L.take k).any (isN name)) ∧ Below w3.heap.size w3 wr)
        (fun _ i _ => L.length - (intOf i).toNat)
      case atStart => exact ⟨0, by omega, rfl, rfl, Below.refl _ _⟩
      case round =>
        obtain ⟨k, hk, rfl, rfl, hB⟩ := hrel
        have hBs := hB.size
        by_cases hkL : k < L.length
        · have hkl : (k : Int) < L.length := by omega
          obtain ⟨c0, c1⟩ := HC.out k hkL
          rw [← hB.cell (p := ⟨a, off + k * 2, none⟩) ha] at c0
          have hg := fun W hL => get_any (.slice (some ⟨a, off, none⟩) L.length cp) L L[k].1 W hL
          rw [getA_rises L HR.out k hkL] at hg
          have ht := take_any (isN name) L k hkL
          have hq : isN name L[k] = (L[k].1.toList == name.toList) := rfl
          rw [hq] at ht
          rcases hLk : L[k] with ⟨x1, x2⟩
          rw [hLk] at c0 c1 hg ht
          simp only [GetV] at hg
          have HT := Lib.hid ht
          clear ht hq
          have hLw := (HL.out.below hB (Nat.le_refl _)).mono hBs
          go_wp2_with fail
          refine (hg _ hLw).mono ?_
          rintro e w4 ⟨rfl, hB4⟩
          have hB4' := hB.trans (hB4.mono hBs)
          rw [← hB.cell (p := ⟨a, off + k * 2 + 1, none⟩) ha] at c1
          rw [← hB4.cell (p := ⟨a, off + k * 2 + 1, none⟩) (by show a < wr.heap.size; omega)] at c1
          rw [← hB4.cell (p := ⟨a, off + k * 2, none⟩) (by show a < wr.heap.size; omega)] at c0
          have hal4 : a < w4.heap.size := by have := hB4.size; omega
          clear hg hB4 hLw
          cases hb : (L.take k).any (isN name)
          · go_wp2_with fail
            go_roundw
            case rel => exact ⟨k + 1, by omega, by go_num, by rw [HT.out, hb]; rfl, hB4'⟩
            case measure => simp [intOf]; omega
          · go_wp2_with fail
            go_roundw
            case rel => exact ⟨k + 1, by omega, by go_num, by rw [HT.out, hb]; rfl, hB4'⟩
            case measure => simp [intOf]; omega
        · have hkL' : ¬ (k : Int) < L.length := by omega
          have htk : L.take k = L := List.take_of_length_le (by omega)
          rw [htk]
          have hg := get_any (.slice (some ⟨a, off, none⟩) L.length cp) L name wr ((HL.out.below hB (Nat.le_refl _)).mono hBs)
          rcases getA_any L name with ⟨v, e1, e2⟩ | ⟨e1, e2⟩
          · rw [e1] at hg
            rw [e2]
            simp only [GetV] at hg
            go_wp2_with fail
            refine hg.mono ?_
            rintro e w4 ⟨rfl, hB4⟩
            go_wp2_with fail
            go_ret
            exact ⟨rfl, (HW.out.trans (hB.mono s3)).trans (hB4.mono (by omega))⟩
          · rw [e1] at hg
            rw [e2]
            simp only [GetV] at hg
            go_wp2_with fail
            refine hg.mono ?_
            rintro e w4 ⟨rfl, hB4⟩
            go_wp2_with fail
            go_ret
            exact ⟨rfl, (HW.out.trans (hB.mono s3)).trans (hB4.mono (by omega))⟩
end Go.Proofs.YtjhdgpboofcelaaGreat
