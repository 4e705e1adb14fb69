/- The references: Right, Get. -/
import Derived.Test.YtjhdgpboofcelaaGreatED
namespace Go.Proofs.YtjhdgpboofcelaaGreat
open Go.RowKit

theorem lessBy_cmp (x y : ByteArray) : lessBy x y = decide (cmpB x y < 0) := by
  unfold lessBy cmpB
  cases Go.Op.bytesLess x.toList y.toList
  · simp
    split <;> simp
  · simp
theorem rising_adj (L : List BLab) (h : ∀ j, (h : j + 1 < L.length) → lessBy L[j].1 L[j + 1].1 = true) : risingB L = true := by
  unfold risingB
  rw [List.all_eq_true]
  intro x hx
  obtain ⟨i, hi, rfl⟩ := List.mem_iff_getElem.1 hx
  have hl := pairsL_length L
  rw [pairsL_getElem L i hi (by omega) (by omega)]
  exact h i (by omega)
theorem right_at (L : List BLab) (h : rightA L = true) (i : Nat) (hi : i < L.length) : nameB L[i].1.data.toList = true ∧ valueB L[i].2.data.toList = true := by
  unfold rightA headB at h
  simp only [Bool.and_eq_true, Bool.not_eq_true', List.any_eq_false] at h
  have := h.1.2 L[i] (List.getElem_mem _)
  unfold otherB at this
  simpa using this
theorem right_adj (L : List BLab) (h : rightA L = true) (j : Nat) (hj : j + 1 < L.length) : lessBy L[j].1 L[j + 1].1 = true := by
  have hr := right_rises L h
  have := List.pairwise_iff_getElem.1 hr j (j + 1) (by omega) hj (by omega)
  unfold lessBy
  rw [bytesLess_eq]
  exact decide_eq_true this
theorem right_of (L : List BLab) (h1 : ∀ i, (h : i < L.length) → nameB L[i].1.data.toList = true ∧ valueB L[i].2.data.toList = true) (h2 : ∀ j, (h : j + 1 < L.length) → lessBy L[j].1 L[j + 1].1 = true) : rightA L = (decide (1 ≤ L.length) && decide (L.length ≤ 6)) := by
  unfold rightA headB
  rw [rising_adj L h2, Bool.and_true]
  have h3 : L.any otherB = false := by
    rw [List.any_eq_false]
    intro x hx
    obtain ⟨i, hi, rfl⟩ := List.mem_iff_getElem.1 hx
    unfold otherB
    rw [(h1 i hi).1, (h1 i hi).2]
    simp
  rw [h3]
  simp only [Bool.not_false, Bool.and_true]
  rfl
/-- Labels whose texts are short. -/
def Short (L : List BLab) : Prop := ∀ x ∈ L, x.1.size ≤ 100000 ∧ x.2.size ≤ 100000
set_option maxHeartbeats 2000000 in
set_option maxRecDepth 100000 in
theorem rright_any (v : Value) (L : List BLab) (w : World) (hL : LabelsAt w.heap.size w v L) (hsh : Short L) :
    Calls Tryz.prog 23 #[v] w fun e w' => e = .returned (.bool (rightA L)) ∧ Below w.heap.size w w' := by
  obtain ⟨n1, p, cp, rfl, hp⟩ := hL.form
  have hF1 : ∀ k, (h : k < L.length) → nameB L[k].1.data.toList = false → rightA L = false := fun k h h1 => by
    cases hr : rightA L
    · rfl
    · rw [(right_at L hr k h).1] at h1; cases h1
  have hF2 : ∀ k, (h : k < L.length) → valueB L[k].2.data.toList = false → rightA L = false := fun k h h1 => by
    cases hr : rightA L
    · rfl
    · rw [(right_at L hr k h).2] at h1; cases h1
  have hF3 : ∀ j, (h : j + 1 < L.length) → lessBy L[j].1 L[j + 1].1 = false → rightA L = false := fun j h h1 => by
    cases hr : rightA L
    · rfl
    · rw [right_adj L hr j h] at h1; cases h1
  have hF4 := right_of L
  generalize rightA L = R at *
  clear hL
  go_enter Tryz.func23, Tryz.ntmps23
  go_wp2
  go_loopw [3] (fun i wr => ∃ k : Nat, k ≤ L.length ∧ i = .int .i64 k ∧ (∀ i, (h : i < L.length) → i < k → nameB L[i].1.data.toList = true ∧ valueB L[i].2.data.toList = true) ∧ (∀ j, (h : j + 1 < L.length) → j + 1 < k → lessBy L[j].1 L[j + 1].1 = true) ∧ Below w.heap.size w wr)
    (fun i _ => L.length - (intOf i).toNat)
  case atStart => exact ⟨0, by omega, rfl, fun _ _ h => by omega, fun _ _ h => by omega, Below.refl _ _⟩
  case round =>
    obtain ⟨k, hk, rfl, hI1, hI2, hB⟩ := hrel
    have hBs := hB.size
    by_cases hkL : k < L.length
    · have hkl : (k : Int) < L.length := by omega
      obtain ⟨a, off, rfl, ha, hcp, hcc⟩ := hp (by rintro rfl; simp at hkL)
      have hal : a < wr.heap.size := by omega
      obtain ⟨c0, c1⟩ := hcc k hkL
      rw [← hB.cell (p := ⟨a, off + k * 2, none⟩) ha] at c0
      rw [← hB.cell (p := ⟨a, off + k * 2 + 1, none⟩) ha] at c1
      have sh := hsh L[k] (List.getElem_mem _)
      have f1 := hF1 k hkL
      have f2 := hF2 k hkL
      have hI1' : nameB L[k].1.data.toList = true → valueB L[k].2.data.toList = true → ∀ i, (h : i < L.length) → i < k + 1 → nameB L[i].1.data.toList = true ∧ valueB L[i].2.data.toList = true := fun h1 h2 i h h3 => by
        rcases Nat.lt_or_ge i k with h4 | h4
        · exact hI1 i h h4
        · obtain rfl : i = k := by omega
          exact ⟨h1, h2⟩
      have hn := fun W => rname_any L[k].1 W (by omega)
      have hv := fun W => rvalue_any L[k].2 W (by omega)
      have HI1 := Lib.hid hI1'
      have HI2 := Lib.hid hI2
      have HF4 := Lib.hid hF4
      have HF3 := Lib.hid hF3
      have HCC := Lib.hid hcc
      have HSH := Lib.hid hsh
      clear hI1 hI1' hI2 hF4 hF1 hF2 hF3 hcc hsh
      rcases hLk : L[k] with ⟨x1, x2⟩
      rw [hLk] at c0 c1 hn hv f1 f2 HI1 sh
      simp only at c0 c1 hn hv f1 f2 HI1 sh
      cases h1 : nameB x1.data.toList
      · have hR0 := f1 h1
        subst hR0
        rw [h1] at hn
        clear HI1 HI2 HF4 HF3 f1 f2 h1 hv hp
        go_wp2
        refine wp_region_gr (by kernel_rfl) (by kernel_rfl) ?_
        repeat (go_big_quiet_step (first | (go_at_call 43; exact Calls.gr (hn _))))
        refine wpQuiet_nil ?_
        intro g
        have hgl := g.le
        go_wp2
        go_ret
        exact ⟨rfl, hB.trans (g.below.mono hBs)⟩
      · rw [h1] at hn HI1
        cases h2 : valueB x2.data.toList
        · have hR0 := f2 h2
          subst hR0
          rw [h2] at hv
          clear HI1 HI2 HF4 HF3 f1 f2 h1 hp h2
          go_wp2
          refine wp_region_gr (by kernel_rfl) (by kernel_rfl) ?_
          repeat (go_big_quiet_step (first | (go_at_call 43; exact Calls.gr (hn _)) | (go_at_call 44; exact Calls.gr (hv _))))
          refine wpQuiet_nil ?_
          intro g
          have hgl := g.le
          go_wp2
          go_ret
          exact ⟨rfl, hB.trans (g.below.mono hBs)⟩
        · rw [h2] at hv HI1
          clear f1 f2 h1 h2
          by_cases hk0 : k = 0
          · have hkz : ¬ 0 < k := by omega
            have HK := Lib.hid hk0
            clear hp hk0
            go_wp2
            refine wp_region_gr (by kernel_rfl) (by kernel_rfl) ?_
            repeat (go_big_quiet_step (first | (go_at_call 43; exact Calls.gr (hn _)) | (go_at_call 44; exact Calls.gr (hv _))))
            refine wpQuiet_nil ?_
            intro g
            have hgl := g.le
            go_wp2
            go_roundw
            case rel => exact ⟨k + 1, by omega, by go_num, HI1.out trivial trivial, fun j h h2 => by have := HK.out; omega, hB.trans (g.below.mono hBs)⟩
            case measure => simp [intOf]; omega
          · have hkz : 0 < k := by omega
            obtain ⟨m, hkm⟩ : ∃ m, k = m + 1 := ⟨k - 1, by omega⟩
            have hm : m < L.length := by omega
            obtain ⟨d0, -⟩ := HCC.out m hm
            rw [← hB.cell (p := ⟨a, off + m * 2, none⟩) ha] at d0
            have shm := HSH.out L[m] (List.getElem_mem _)
            have hLk' : L[m + 1]'(by omega) = (x1, x2) := by
              rw [← hLk]; congr 1; exact hkm.symm
            have hl := fun W => least_any L[m].1 x1 W (by omega) (by omega)
            have hlc := lessBy_cmp L[m].1 x1
            have f3 := HF3.out m (by omega)
            rw [hLk'] at f3
            simp only at f3
            rw [hlc] at f3
            have HI2' : lessBy L[m].1 x1 = true → ∀ j, (h : j + 1 < L.length) → j + 1 < k + 1 → lessBy L[j].1 L[j + 1].1 = true := fun h1 j h h3 => by
              rcases Nat.lt_or_ge (j + 1) k with h4 | h4
              · exact HI2.out j h h4
              · obtain rfl : j = m := by omega
                rw [hLk']; exact h1
            rw [hlc] at HI2'
            have HI3 := Lib.hid HI2'
            have hsub : (k : Int) - 1 = m := by omega
            have hml : (m : Int) < L.length := by omega
            clear HI2' HI2 hlc HF3 HSH HCC hp hk0 hLk' hLk hkm shm sh
            generalize L[m].1 = y1 at *
            generalize cmpB y1 x1 = c at *
            by_cases hc0 : c < 0
            · have hdc : decide (0 ≤ c) = false := decide_eq_false (by omega)
              have hd0 : decide (c < 0) = true := decide_eq_true hc0
              rw [hd0] at HI3
              clear f3 hd0 hc0
              go_wp2
              refine wp_region_gr (by kernel_rfl) (by kernel_rfl) ?_
              repeat (go_big_quiet_step (first | (go_at_call 43; exact Calls.gr (hn _)) | (go_at_call 44; exact Calls.gr (hv _)) | (go_at_call 45; exact Calls.gr (hl _))))
              refine wpQuiet_nil ?_
              intro g
              have hgl := g.le
              go_wp2
              go_roundw
              case rel => exact ⟨k + 1, by omega, by go_num, HI1.out trivial trivial, HI3.out trivial, hB.trans (g.below.mono hBs)⟩
              case measure => simp [intOf]; omega
            · have hdc : decide (0 ≤ c) = true := decide_eq_true (by omega)
              have hR0 : R = false := f3 (decide_eq_false hc0)
              subst hR0
              clear f3 hc0 HI3 HI1
              go_wp2
              refine wp_region_gr (by kernel_rfl) (by kernel_rfl) ?_
              repeat (go_big_quiet_step (first | (go_at_call 43; exact Calls.gr (hn _)) | (go_at_call 44; exact Calls.gr (hv _)) | (go_at_call 45; exact Calls.gr (hl _))))
              refine wpQuiet_nil ?_
              intro g
              have hgl := g.le
              go_wp2
              go_ret
              exact ⟨rfl, hB.trans (g.below.mono hBs)⟩
    · have hkl : ¬ (k : Int) < L.length := by omega
      have he := hF4 (fun i h => hI1 i h (by omega)) (fun j h => hI2 j h (by omega))
      subst he
      clear hF1 hF2 hF3 hF4 hI1 hI2 hp hsh
      by_cases h1 : 1 ≤ L.length
      · have h1' : (1 : Int) ≤ L.length := by omega
        go_wp2
        go_ret
        exact ⟨by simp [h1]; omega, hB⟩
      · have h1' : ¬ (1 : Int) ≤ L.length := by omega
        go_wp2
        go_ret
        exact ⟨by simp [h1], hB⟩
set_option maxHeartbeats 1000000 in
set_option maxRecDepth 100000 in
theorem rget_any (v : Value) (L : List BLab) (name : ByteArray) (w : World) (hL : LabelsAt w.heap.size w v L) :
    Calls Tryz.prog 22 #[v, .string name] w fun e w' => e = .returned (GetV (getA L name)) ∧ Below w.heap.size w w' := by
  obtain ⟨n1, p, cp, rfl, hp⟩ := hL.form
  have hS : ∀ k, (h : k < L.length) → isN name L[k] = true → (L.take k).any (isN name) = false → getA L name = some L[k].2 := fun k h h1 h2 => by
    unfold getA
    conv => lhs; rw [← List.take_append_drop k L, List.find?_append]
    have : (L.take k).find? (isN name) = none := by
      rw [List.find?_eq_none]
      intro x hx hx2
      rw [List.any_eq_false] at h2
      exact h2 x hx hx2
    rw [this, List.drop_eq_getElem_cons h, List.find?_cons, h1]
    rfl
  have hN : L.any (isN name) = false → getA L name = none := fun h => by
    rcases getA_any L name with ⟨v, e1, e2⟩ | ⟨e1, e2⟩
    · rw [e2] at h; cases h
    · exact e1
  generalize getA L name = G at *
  clear hL
  go_enter Tryz.func22, Tryz.ntmps22
  go_wp2
  go_loopw [6] (fun i wr => ∃ k : Nat, k ≤ L.length ∧ i = .int .i64 k ∧ (L.take k).any (isN name) = false ∧ wr = w)
    (fun i _ => L.length - (intOf i).toNat)
  case atStart => exact ⟨0, by omega, rfl, by simp, rfl⟩
  case round =>
    obtain ⟨k, hk, rfl, hI, rfl⟩ := hrel
    by_cases hkL : k < L.length
    · have hkl : (k : Int) < L.length := by omega
      obtain ⟨a, off, rfl, ha, hcp, hcc⟩ := hp (by rintro rfl; simp at hkL)
      obtain ⟨c0, c1⟩ := hcc k hkL
      have ht := take_any (isN name) L k hkL
      have hs := hS k hkL
      have hq : isN name L[k] = (L[k].1.toList == name.toList) := rfl
      rw [hI, Bool.false_or] at ht
      rw [hq] at ht hs
      rcases hLk : L[k] with ⟨x1, x2⟩
      rw [hLk] at c0 c1 ht hs
      simp only at ht hs c0 c1
      cases hb : (x1.toList == name.toList)
      · rw [hb] at ht
        have HT := Lib.hid ht
        clear ht hs hS hN hcc hp hq hI hLk
        go_wp2
        go_roundw
        case rel => exact ⟨k + 1, by omega, by go_num, HT.out, trivial⟩
        case measure => simp [intOf]; omega
      · have hg := hs hb hI
        subst hg
        clear ht hs hS hN hcc hp hq hI hLk
        go_wp2
        go_ret2
        exact ⟨rfl, Below.refl _ _⟩
    · have hkl : ¬ (k : Int) < L.length := by omega
      have hg := hN (by rwa [List.take_of_length_le (by omega)] at hI)
      subst hg
      clear hS hN hp hI
      go_wp2
      go_ret2
      exact ⟨rfl, Below.refl _ _⟩
end Go.Proofs.YtjhdgpboofcelaaGreat
