/- LabelOrders: the plain law and the walk. -/
import Derived.Test.YtjhdgpboofcelaaGreatE9
namespace Go.Proofs.YtjhdgpboofcelaaGreat
open Go.RowKit

theorem cmpB_swap (x y : ByteArray) : cmpB y x = - cmpB x y := by rw [cmpB_eq, cmpB_eq, cmpU_swap]
theorem cmpB_zero (x y : ByteArray) : cmpB x y = 0 ↔ x = y := by
  rw [cmpB_eq, cmpU_zero]
  exact ⟨fun h => ByteArray.ext (Array.toList_inj.1 h), fun h => by rw [h]⟩
theorem cmpL_swap (x y : BLab) : cmpL y x = - cmpL x y := by
  unfold cmpL
  rw [cmpB_swap x.1 y.1, cmpB_swap x.2 y.2]
  by_cases h : cmpB x.1 y.1 = 0
  · simp [h]
  · have h2 : ¬ - cmpB x.1 y.1 = 0 := by omega
    rw [if_neg h, if_neg h2]
theorem cmpL_zero (x y : BLab) : cmpL x y = 0 ↔ x = y := by
  unfold cmpL
  by_cases h : cmpB x.1 y.1 = 0
  · rw [if_pos h, cmpB_zero]
    have h1 := (cmpB_zero _ _).1 h
    exact ⟨fun h2 => Prod.ext h1 h2, fun h2 => by rw [h2]⟩
  · rw [if_neg h]
    exact ⟨fun h2 => absurd h2 h, fun h2 => by rw [h2]; exact (cmpB_zero _ _).2 rfl⟩
theorem cmpLs_swap : ∀ L K : List BLab, cmpLs K L = - cmpLs L K
  | [], [] => rfl
  | [], _ :: _ => rfl
  | _ :: _, [] => rfl
  | x :: a, y :: b => by
    unfold cmpLs
    rw [cmpL_swap x y, cmpLs_swap a b]
    by_cases h : cmpL x y = 0
    · simp [h]
    · have h2 : ¬ - cmpL x y = 0 := by omega
      rw [if_neg h, if_neg h2]
theorem cmpLs_zero : ∀ L K : List BLab, cmpLs L K = 0 ↔ L = K
  | [], [] => by simp [cmpLs]
  | [], _ :: _ => by simp [cmpLs]
  | _ :: _, [] => by simp [cmpLs]
  | x :: a, y :: b => by
    unfold cmpLs
    by_cases h : cmpL x y = 0
    · rw [if_pos h, cmpLs_zero a b]
      have := (cmpL_zero x y).1 h
      subst this
      simp
    · rw [if_neg h]
      exact ⟨fun h2 => absurd h2 h, fun h2 => by rw [(List.cons.inj h2).1]; exact (cmpL_zero _ _).2 rfl⟩
set_option maxRecDepth 100000 in
set_option maxHeartbeats 1000000 in
theorem labelOrders_law (p q : Option Addr) (len cap len2 cap2 : Nat) (J K : List BLab) (hn : J.length = min len 10) (hm : K.length = min len2 10) (w : World) (hc : CameAt w p J) (hd : CameAt w q K) :
    Calls Tryz.prog 9 #[.slice p len cap, .slice q len2 cap2] w fun e w' => e = .returned (.bool true) ∧ Below w.heap.size w w' := by
  have hF : ∀ W, Below w.heap.size w W → Calls Tryz.prog 17 #[.slice p len cap] W fun e w' => Below W.heap.size W w' ∧ ∃ v, e = .returned v ∧ LabelsAt w'.heap.size w' v (J.map cutLab) := fun W hb => few_any p len cap J W hn (came_below hc hb)
  have hG : ∀ W, Below w.heap.size w W → Calls Tryz.prog 17 #[.slice q len2 cap2] W fun e w' => Below W.heap.size W w' ∧ ∃ v, e = .returned v ∧ LabelsAt w'.heap.size w' v (K.map cutLab) := fun W hb => few_any q len2 cap2 K W hm (came_below hd hb)
  generalize J.map cutLab = A at *
  generalize K.map cutLab = B at *
  clear hn hc hm hd
  have e1 := cmpLs_swap A B
  have e2 := cmpLs_zero A B
  go_enter Tryz.func9, Tryz.ntmps9
  go_wp2_with fail
  refine (shown_any _).mono ?_
  rintro e w1 ⟨rfl, B1⟩
  have s1 := B1.size
  go_wp2_with fail
  refine (hF _ B1).mono ?_
  rintro e w2 ⟨B2, v, rfl, hA⟩
  have C2 := B1.trans (B2.mono s1)
  have s2 := C2.size
  go_wp2_with fail
  refine (hG _ C2).mono ?_
  rintro e w3 ⟨B3, u, rfl, hB⟩
  have C3 := C2.trans (B3.mono s2)
  have s3 := C3.size
  have hA := hA.at_ B3
  go_wp2_with fail
  refine (less_any v u A B _ hA hB).mono ?_
  rintro e w4 ⟨rfl, B4⟩
  have C4 := C3.trans (B4.mono s3)
  have s4 := C4.size
  have hA := hA.at_ B4
  have hB := hB.at_ B4
  go_wp2_with fail
  refine (less_any u v B A _ hB hA).mono ?_
  rintro e w5 ⟨rfl, B5⟩
  have C5 := C4.trans (B5.mono s4)
  have s5 := C5.size
  have hA := hA.at_ B5
  have hB := hB.at_ B5
  have hR := rless_any v u A B w5 hA hB
  have hS := fun w6 (b : Below w5.heap.size w5 w6) => rsame_any v u A B w6 (hA.at_ b) (hB.at_ b)
  rw [e1]
  have hx : (cmpLs A B < 0 ∧ decide (A = B) = false) ∨ (cmpLs A B = 0 ∧ decide (A = B) = true) ∨ (0 < cmpLs A B ∧ decide (A = B) = false) := by
    by_cases h : A = B
    · exact .inr (.inl ⟨e2.2 h, decide_eq_true h⟩)
    · have : cmpLs A B ≠ 0 := fun h2 => h (e2.1 h2)
      rcases Int.lt_or_gt_of_ne this with h1 | h1
      · exact .inl ⟨h1, decide_eq_false h⟩
      · exact .inr (.inr ⟨h1, decide_eq_false h⟩)
  clear e1 e2 hF hG hA hB B1 B2 B3 B4 B5 C2 C3 C4
  generalize decide (A = B) = same at *
  generalize cmpLs A B = C at *
  rcases hx with ⟨h1, rfl⟩ | ⟨rfl, rfl⟩ | ⟨h1, rfl⟩
  · have h2 : decide (C < 0) = true := decide_eq_true h1
    have h3 : decide (-C < 0) = false := decide_eq_false (by omega)
    rw [h2] at hR ⊢
    rw [h3]
    go_wp2_with fail
    refine hR.mono ?_
    rintro e w6 ⟨rfl, B6⟩
    go_wp2_with fail
    refine (hS _ B6).mono ?_
    rintro e w7 ⟨rfl, B7⟩
    go_wp2_with fail
    go_ret
    have := B6.size
    exact ⟨rfl, (C5.trans (B6.mono s5)).trans (B7.mono (by omega))⟩
  · have h2 : decide ((0 : Int) < 0) = false := by decide
    have h3 : decide (-(0 : Int) < 0) = false := by decide
    rw [h2] at hR ⊢
    rw [h3]
    go_wp2_with fail
    refine hR.mono ?_
    rintro e w6 ⟨rfl, B6⟩
    go_wp2_with fail
    refine (hS _ B6).mono ?_
    rintro e w7 ⟨rfl, B7⟩
    go_wp2_with fail
    go_ret
    have := B6.size
    exact ⟨rfl, (C5.trans (B6.mono s5)).trans (B7.mono (by omega))⟩
  · have h2 : decide (C < 0) = false := decide_eq_false (by omega)
    have h3 : decide (-C < 0) = true := decide_eq_true (by omega)
    rw [h2] at hR ⊢
    rw [h3]
    go_wp2_with fail
    refine hR.mono ?_
    rintro e w6 ⟨rfl, B6⟩
    go_wp2_with fail
    refine (hS _ B6).mono ?_
    rintro e w7 ⟨rfl, B7⟩
    go_wp2_with fail
    go_ret
    have := B6.size
    exact ⟨rfl, (C5.trans (B6.mono s5)).trans (B7.mono (by omega))⟩
end Go.Proofs.YtjhdgpboofcelaaGreat
