/- The references: Size. -/
import Derived.Test.YtjhdgpboofcelaaGreatEA
namespace Go.Proofs.YtjhdgpboofcelaaGreat
open Go.RowKit
open Go.Lib (decodeL validD)

/-- How many bytes the rune has that a text begins with; 0: there is none. -/
def sizeA (l : List UInt8) : Nat := if l = [] then 0 else if (decodeL l).1 = 65533 ∧ (decodeL l).2 = 1 then 0 else (decodeL l).2
abbrev sX : ByteArray := ⟨#[120]⟩
theorem prefix3 (l : List UInt8) (h : 3 ≤ l.length) : Lib.hasPrefix (l ++ [120]) [239, 191, 189] = (l.take 3 == [239, 191, 189]) := by
  obtain ⟨a, l, rfl⟩ := List.exists_cons_of_length_pos (show 0 < l.length by omega)
  obtain ⟨b, l, rfl⟩ := List.exists_cons_of_length_pos (show 0 < l.length by simp at h; omega)
  obtain ⟨c, l, rfl⟩ := List.exists_cons_of_length_pos (show 0 < l.length by simp at h; omega)
  simp only [Lib.hasPrefix, List.cons_append, List.isPrefixOf, List.take_succ_cons, List.take_zero, List.cons_beq_cons, Bool.and_true]
  rw [Bool.beq_comm (a := a), Bool.beq_comm (a := b), Bool.beq_comm (a := c)]
  simp
theorem prefix2 (l : List UInt8) (h : l.length < 3) : Lib.hasPrefix (l ++ [120]) [239, 191, 189] = false := by
  match l, h with
  | [], _ => rfl
  | [a], _ => simp [Lib.hasPrefix, List.isPrefixOf]
  | [a, b], _ => simp [Lib.hasPrefix, List.isPrefixOf]
theorem size_cases (s : ByteArray) (h0 : 0 < s.size) : ∃ r k : Nat, Utf8.decode (s ++ sX) 0 = (r, k) ∧ 1 ≤ k ∧ k ≤ s.size + 1 ∧
    ((r = 65533 ∧ s.size < 3 ∧ sizeA s.data.toList = 0) ∨ (r = 65533 ∧ 3 ≤ s.size ∧ (s.data.toList.take 3 == [239, 191, 189]) = false ∧ sizeA s.data.toList = 0) ∨
      ((r ≠ 65533 ∨ (r = 65533 ∧ 3 ≤ s.size ∧ (s.data.toList.take 3 == [239, 191, 189]) = true)) ∧
        ((k = s.size + 1 ∧ sizeA s.data.toList = 0) ∨ (k ≤ s.size ∧ sizeA s.data.toList = k ∧ (k = 1 → (s.data.toList.getD 0 0).toNat < 128))))) := by
  have hts : (s ++ sX).size = s.size + 1 := by simp [ByteArray.size_append]; rfl
  obtain ⟨r, k, hd, hk1, hk2, -, -, -, hp⟩ := rune_at (s ++ sX) 0 (by omega)
  have hx : (s ++ sX).extract 0 (s ++ sX).size = s ++ sX := ByteArray.extract_zero_size
  rw [hx, data_append, show sX.data.toList = [120] from rfl] at hp
  rw [Nat.zero_add, hts] at hk2
  refine ⟨r, k, hd, hk1, hk2, ?_⟩
  have hdl : decodeL (s.data.toList ++ [120]) = (r, k) := by
    have := Lib.decodeL_drop (s ++ sX) 0
    rw [List.drop_zero, data_append, hd] at this
    exact this
  have hls : s.data.toList.length = s.size := data_length s
  generalize s.data.toList = l at *
  rw [← hls] at h0 hk2 ⊢
  clear hd hx hts hls
  have hne : l ≠ [] := List.length_pos_iff.1 h0
  have hbad : r = 65533 ∧ k = 1 → sizeA l = 0 := by
    rintro ⟨rfl, rfl⟩
    unfold sizeA
    rw [if_neg hne]
    by_cases hv : (decodeL l).1 = 65533 ∧ (decodeL l).2 = 1
    · rw [if_pos hv]
    · have := decodeL_append l [120] hne hv
      rw [hdl] at this
      rw [← this] at hv
      exact absurd ⟨rfl, rfl⟩ hv
  have hgood : ¬ (r = 65533 ∧ k = 1) → (k = l.length + 1 ∧ sizeA l = 0) ∨ (k ≤ l.length ∧ sizeA l = k ∧ (k = 1 → (l.getD 0 0).toNat < 128)) := by
    intro hv
    by_cases hk : k ≤ l.length
    · refine .inr ⟨hk, ?_⟩
      have he := decodeL_of_append l [120] hne (by rw [hdl]; exact hv) (by rw [hdl]; exact hk)
      rw [hdl] at he
      unfold sizeA
      rw [if_neg hne, he, if_neg hv]
      refine ⟨rfl, fun hk1 => ?_⟩
      rcases rune_bytes l hne (by rw [he]; exact hv) with ⟨h, -, -⟩ | ⟨-, h, -⟩
      · exact h
      · rw [he] at h; simp only at h; omega
    · refine .inl ⟨by omega, ?_⟩
      unfold sizeA
      rw [if_neg hne]
      by_cases hv2 : (decodeL l).1 = 65533 ∧ (decodeL l).2 = 1
      · rw [if_pos hv2]
      · have := decodeL_append l [120] hne hv2
        have hle := Lib.decodeL_le l hne
        rw [← this, hdl] at hle
        simp only at hle
        omega
  by_cases hr : r = 65533
  · have hp := hp hr
    by_cases h3 : l.length < 3
    · rw [prefix2 l h3] at hp
      have hk : k = 1 := by
        cases hq : decide (k = 1)
        · rw [hq] at hp; cases hp
        · exact of_decide_eq_true hq
      exact .inl ⟨hr, h3, hbad ⟨hr, hk⟩⟩
    · rw [prefix3 l (by omega)] at hp
      by_cases hk : k = 1
      · refine .inr (.inl ⟨hr, by omega, ?_, hbad ⟨hr, hk⟩⟩)
        rw [hp]
        simp [hk]
      · refine .inr (.inr ⟨.inr ⟨hr, by omega, ?_⟩, hgood (fun h => hk h.2)⟩)
        rw [hp]
        simp [hk]
  · exact .inr (.inr ⟨.inl hr, hgood (fun h => hr h.1)⟩)
set_option maxRecDepth 100000 in
set_option maxHeartbeats 1000000 in
theorem size_any (s : ByteArray) (w : World) (hs : s.size ≤ 1000000) :
    Calls Tryz.prog 54 #[.string s] w fun e w' => e = .returned (.int .i64 (sizeA s.data.toList)) ∧ Below w.heap.size w w' := by
  have hts : (s ++ sX).size = s.size + 1 := by simp [ByteArray.size_append]; rfl
  have hn1 : ∀ (pos : Nat) ty, pos < (s ++ sX).size → (Instr.next (.pointer (some ⟨w.heap.size, 0, none⟩)) true ty).run Tryz.prog (w.iter (s ++ sX) pos) = _ := fun pos ty h => run_next_any w (s ++ sX) pos ty h
  have hn2 : ∀ (pos : Nat) ty, ¬ pos < (s ++ sX).size → (Instr.next (.pointer (some ⟨w.heap.size, 0, none⟩)) true ty).run Tryz.prog (w.iter (s ++ sX) pos) = _ := fun pos ty h => run_next_end w (s ++ sX) pos ty h
  have hadd : s.size + 1 ≤ 140737488355328 := by omega
  by_cases h0 : 0 < s.size
  · obtain ⟨r, k, hd, hk1, hk2, hx⟩ := size_cases s h0
    have m1 := fun ty => hn1 0 ty (by omega)
    have m2 := fun ty h => hn1 k ty h
    have m3 := fun ty h => hn2 k ty h
    rw [hd] at m1
    simp only [Nat.zero_add] at m1
    clear hn1 hn2 hd
    have hne0 : s.size ≠ 0 := by omega
    have hsx : s.size + (⟨#[120]⟩ : ByteArray).size ≤ 140737488355328 := by
      have : (⟨#[120]⟩ : ByteArray).size = 1 := rfl
      omega
    generalize hN : sizeA s.data.toList = N at *
    have hget : ∀ (h : 0 < s.size), s.data.toList.getD 0 0 = s[0] := fun h => by
      rw [List.getD_eq_getElem?_getD, List.getElem?_eq_getElem (by rw [data_length]; exact h)]
      simp [ByteArray.getElem_eq_getElem_data]
    rw [hget h0] at hx
    have htk : s.data.toList.take 3 = (s.extract 0 3).toList := by
      rw [Lib.toList_data, ByteArray.data_extract]
      simp
    rw [htk] at hx
    have HT := Lib.hid hts
    clear hget htk hN hts hadd
    rcases hx with ⟨rfl, h3, rfl⟩ | ⟨rfl, h3, h4, rfl⟩ | ⟨h5, h6⟩
    · have h3' : (s.size : Int) < 3 := by omega
      clear m2 m3 h3
      go_enter Tryz.func54, Tryz.ntmps54
      go_wp2
      refine wp_loop_rounds 1 ?_
      rw [rounds_succ]
      go_wp2
      go_ret
      exact ⟨rfl, (by repeat (first | exact Below.refl _ _ | assumption | (refine Below.setCell ?_ (by (first | omega | (simp; done) | (simp; omega) | (simp at *; omega))) _) | (refine Below.alloc ?_ (by (first | omega | (simp; done) | (simp; omega) | (simp at *; omega))) _) | (refine Below.drew ?_) | (refine Gr.into _ ?_ (by (first | omega | (simp; done) | (simp; omega) | (simp at *; omega))))))⟩
    · have h3' : ¬ (s.size : Int) < 3 := by omega
      have h3'' : (3 : Int) ≤ s.size := by omega
      clear m2 m3
      go_enter Tryz.func54, Tryz.ntmps54
      go_wp2
      refine wp_loop_rounds 1 ?_
      rw [rounds_succ]
      go_wp2
      go_ret
      exact ⟨rfl, (by repeat (first | exact Below.refl _ _ | assumption | (refine Below.setCell ?_ (by (first | omega | (simp; done) | (simp; omega) | (simp at *; omega))) _) | (refine Below.alloc ?_ (by (first | omega | (simp; done) | (simp; omega) | (simp at *; omega))) _) | (refine Below.drew ?_) | (refine Gr.into _ ?_ (by (first | omega | (simp; done) | (simp; omega) | (simp at *; omega))))))⟩
    · rcases h5 with h5 | ⟨rfl, h3, h4⟩
      · have hr1 : ((r : Int) == 65533) = false := by simp; omega
        clear h5
        rcases h6 with ⟨rfl, rfl⟩ | ⟨hk, hNk, h7⟩
        · have m3' := fun ty => m3 ty (by have := HT.out; omega)
          clear m2 m3
          go_enter Tryz.func54, Tryz.ntmps54
          go_wp2
          refine wp_loop_rounds 2 ?_
          rw [rounds_succ]
          go_wp2
          rw [rounds_succ]
          go_wp2
          go_ret
          exact ⟨rfl, (by repeat (first | exact Below.refl _ _ | assumption | (refine Below.setCell ?_ (by (first | omega | (simp; done) | (simp; omega) | (simp at *; omega))) _) | (refine Below.alloc ?_ (by (first | omega | (simp; done) | (simp; omega) | (simp at *; omega))) _) | (refine Below.drew ?_) | (refine Gr.into _ ?_ (by (first | omega | (simp; done) | (simp; omega) | (simp at *; omega))))))⟩
        · have hNk' := hNk.symm
          subst hNk'
          clear hNk
          have m2' := fun ty => m2 ty (by have := HT.out; omega)
          clear m2 m3
          have g1 : (0 : Int) < k := by omega
          have g2 : ¬ (s.size : Int) < k := by omega
          by_cases hk1' : k = 1
          · have h8 : ¬ (128 : Int) ≤ s[0].toNat := by have := h7 hk1'; omega
            have g3 : ¬ (s.size : Int) < 1 := by omega
            subst hk1'
            clear h7
            go_enter Tryz.func54, Tryz.ntmps54
            go_wp2
            refine wp_loop_rounds 2 ?_
            rw [rounds_succ]
            go_wp2
            rw [rounds_succ]
            go_wp2
            go_ret
            exact ⟨rfl, (by repeat (first | exact Below.refl _ _ | assumption | (refine Below.setCell ?_ (by (first | omega | (simp; done) | (simp; omega) | (simp at *; omega))) _) | (refine Below.alloc ?_ (by (first | omega | (simp; done) | (simp; omega) | (simp at *; omega))) _) | (refine Below.drew ?_) | (refine Gr.into _ ?_ (by (first | omega | (simp; done) | (simp; omega) | (simp at *; omega))))))⟩
          · have h8 : ((k : Int) == 1) = false := by simp; omega
            clear h7
            go_enter Tryz.func54, Tryz.ntmps54
            go_wp2
            refine wp_loop_rounds 2 ?_
            rw [rounds_succ]
            go_wp2
            rw [rounds_succ]
            go_wp2
            go_ret
            exact ⟨rfl, (by repeat (first | exact Below.refl _ _ | assumption | (refine Below.setCell ?_ (by (first | omega | (simp; done) | (simp; omega) | (simp at *; omega))) _) | (refine Below.alloc ?_ (by (first | omega | (simp; done) | (simp; omega) | (simp at *; omega))) _) | (refine Below.drew ?_) | (refine Gr.into _ ?_ (by (first | omega | (simp; done) | (simp; omega) | (simp at *; omega))))))⟩
      · have h3' : ¬ (s.size : Int) < 3 := by omega
        have h3'' : (3 : Int) ≤ s.size := by omega
        clear h3
        rcases h6 with ⟨rfl, rfl⟩ | ⟨hk, hNk, h7⟩
        · have m3' := fun ty => m3 ty (by have := HT.out; omega)
          clear m2 m3
          go_enter Tryz.func54, Tryz.ntmps54
          go_wp2
          refine wp_loop_rounds 2 ?_
          rw [rounds_succ]
          go_wp2
          rw [rounds_succ]
          go_wp2
          go_ret
          exact ⟨rfl, (by repeat (first | exact Below.refl _ _ | assumption | (refine Below.setCell ?_ (by (first | omega | (simp; done) | (simp; omega) | (simp at *; omega))) _) | (refine Below.alloc ?_ (by (first | omega | (simp; done) | (simp; omega) | (simp at *; omega))) _) | (refine Below.drew ?_) | (refine Gr.into _ ?_ (by (first | omega | (simp; done) | (simp; omega) | (simp at *; omega))))))⟩
        · have hNk' := hNk.symm
          subst hNk'
          clear hNk
          have m2' := fun ty => m2 ty (by have := HT.out; omega)
          clear m2 m3
          have g1 : (0 : Int) < k := by omega
          have g2 : ¬ (s.size : Int) < k := by omega
          by_cases hk1' : k = 1
          · have h8 : ¬ (128 : Int) ≤ s[0].toNat := by have := h7 hk1'; omega
            have g3 : ¬ (s.size : Int) < 1 := by omega
            subst hk1'
            clear h7
            go_enter Tryz.func54, Tryz.ntmps54
            go_wp2
            refine wp_loop_rounds 2 ?_
            rw [rounds_succ]
            go_wp2
            rw [rounds_succ]
            go_wp2
            go_ret
            exact ⟨rfl, (by repeat (first | exact Below.refl _ _ | assumption | (refine Below.setCell ?_ (by (first | omega | (simp; done) | (simp; omega) | (simp at *; omega))) _) | (refine Below.alloc ?_ (by (first | omega | (simp; done) | (simp; omega) | (simp at *; omega))) _) | (refine Below.drew ?_) | (refine Gr.into _ ?_ (by (first | omega | (simp; done) | (simp; omega) | (simp at *; omega))))))⟩
          · have h8 : ((k : Int) == 1) = false := by simp; omega
            clear h7
            go_enter Tryz.func54, Tryz.ntmps54
            go_wp2
            refine wp_loop_rounds 2 ?_
            rw [rounds_succ]
            go_wp2
            rw [rounds_succ]
            go_wp2
            go_ret
            exact ⟨rfl, (by repeat (first | exact Below.refl _ _ | assumption | (refine Below.setCell ?_ (by (first | omega | (simp; done) | (simp; omega) | (simp at *; omega))) _) | (refine Below.alloc ?_ (by (first | omega | (simp; done) | (simp; omega) | (simp at *; omega))) _) | (refine Below.drew ?_) | (refine Gr.into _ ?_ (by (first | omega | (simp; done) | (simp; omega) | (simp at *; omega))))))⟩
  · have hz : s.size = 0 := by omega
    have hse : s = ⟨#[]⟩ := by
      have h1 : s.data.size = 0 := hz
      exact ByteArray.ext (Array.size_eq_zero_iff.1 h1)
    subst hse
    have m1 : ∀ ty, (Instr.next (.pointer (some ⟨w.heap.size, 0, none⟩)) true ty).run Tryz.prog (w.iter ⟨#[120]⟩ 0) = .ok (.tuple #[.bool true, .int .i64 0, .int .i32 120]) (w.iter ⟨#[120]⟩ 1) := fun ty => run_next_any w ⟨#[120]⟩ 0 ty (by decide)
    have m2 : ∀ ty, (Instr.next (.pointer (some ⟨w.heap.size, 0, none⟩)) true ty).run Tryz.prog (w.iter ⟨#[120]⟩ 1) = .ok (.tuple #[.bool false]) (w.iter ⟨#[120]⟩ 1) := fun ty => run_next_end w ⟨#[120]⟩ 1 ty (by decide)
    have hap : (⟨#[]⟩ : ByteArray) ++ ⟨#[120]⟩ = ⟨#[120]⟩ := by decide
    clear hn1 hn2 hts h0 hz hs
    have hsx : (⟨#[]⟩ : ByteArray).size + (⟨#[120]⟩ : ByteArray).size ≤ 140737488355328 := by decide
    go_enter Tryz.func54, Tryz.ntmps54
    go_wp2
    refine wp_loop_rounds 2 ?_
    rw [rounds_succ]
    go_wp2
    rw [rounds_succ]
    go_wp2
    go_ret
    exact ⟨rfl, (by repeat (first | exact Below.refl _ _ | assumption | (refine Below.setCell ?_ (by (first | omega | (simp; done) | (simp; omega) | (simp at *; omega))) _) | (refine Below.alloc ?_ (by (first | omega | (simp; done) | (simp; omega) | (simp at *; omega))) _) | (refine Below.drew ?_) | (refine Gr.into _ ?_ (by (first | omega | (simp; done) | (simp; omega) | (simp at *; omega))))))⟩
end Go.Proofs.YtjhdgpboofcelaaGreat
