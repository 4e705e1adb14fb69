/- cmp.Or; package label: Less; slices.CompareFunc. -/
import Derived.Test.YtjhdgpboofcelaaGreatE6
namespace Go.Proofs.YtjhdgpboofcelaaGreat
open Go.RowKit

theorem or_any (x y : Int) (b : Nat) (w : World) (h : RowAt w b 3 [.int .i64 x, .int .i64 y]) :
    Calls Tryz.prog 48 #[.slice (some ⟨b, 0, none⟩) 2 2] w fun e w' => e = .returned (.int .i64 (if x = 0 then y else x)) ∧ Below w.heap.size w w' := by
  obtain ⟨c0, c1, -, -, -⟩ := h.two
  by_cases hx : x = 0
  · subst hx
    by_cases hy : y = 0
    · subst hy
      go_enter Tryz.func48, Tryz.ntmps48
      go_wp2
      refine wp_loop_rounds 3 ?_
      rw [rounds_succ]
      go_wp2
      rw [rounds_succ]
      go_wp2
      rw [rounds_succ]
      go_wp2
      go_ret
      exact ⟨rfl, Below.refl _ _⟩
    · go_enter Tryz.func48, Tryz.ntmps48
      go_wp2
      refine wp_loop_rounds 2 ?_
      rw [rounds_succ]
      go_wp2
      rw [rounds_succ]
      go_wp2
      go_ret
      exact ⟨rfl, Below.refl _ _⟩
  · go_enter Tryz.func48, Tryz.ntmps48
    go_wp2
    refine wp_loop_rounds 1 ?_
    rw [rounds_succ]
    go_wp2
    go_ret
    exact ⟨by simp [hx], Below.refl _ _⟩
/-- Labels by name, then by value. -/
def cmpL (x y : BLab) : Int := if cmpB x.1 y.1 = 0 then cmpB x.2 y.2 else cmpB x.1 y.1
theorem compare_gr (x y : ByteArray) (w : World) : Calls Tryz.prog 30 #[.string x, .string y] w fun e w' => e = .returned (.int .i64 (cmpB x y)) ∧ Below w.heap.size w w' :=
  (compare_any x y w).mono fun _ _ ⟨h1, h2⟩ => ⟨h1, h2 ▸ Below.refl _ _⟩
set_option maxRecDepth 100000 in
theorem less1_any (x y : BLab) (w : World) : Calls Tryz.prog 47 #[LabV x, LabV y] w fun e w' => e = .returned (.int .i64 (cmpL x y)) ∧ Below w.heap.size w w' := by
  obtain ⟨a, b⟩ := x
  obtain ⟨c, d⟩ := y
  unfold cmpL
  simp only
  go_enter Tryz.func47, Tryz.ntmps47
  go_wp2
  refine wp_named (fun V hV => ?_)
  have hBV : Below w.heap.size w V := by rw [hV]; exact (by repeat (first | exact Below.refl _ _ | assumption | (refine Below.setCell ?_ (by (first | omega | (simp; done) | (simp; omega) | (simp at *; omega))) _) | (refine Below.alloc ?_ (by (first | omega | (simp; done) | (simp; omega) | (simp at *; omega))) _) | (refine Below.drew ?_) | (refine Gr.into _ ?_ (by (first | omega | (simp; done) | (simp; omega) | (simp at *; omega))))))
  have x : RowAt V (w.heap.size) 41 [.string a, .string b] := by rw [hV]; exact (by repeat (first | assumption | exact RowAt.new_at _ _ _ _ (by (first | omega | (simp; done) | (simp; omega) | (simp at *; omega))) | (refine RowAt.alloc ?_ _) | (refine RowAt.gr ?_ _) | (refine RowAt.setOther ?_ _ _ (by (first | omega | (simp; done) | (simp; omega) | (simp at *; omega)))) | (refine RowAt.drew ?_)))
  have y : RowAt V (w.heap.size + 1) 41 [.string c, .string d] := by rw [hV]; exact (by repeat (first | assumption | exact RowAt.new_at _ _ _ _ (by (first | omega | (simp; done) | (simp; omega) | (simp at *; omega))) | (refine RowAt.alloc ?_ _) | (refine RowAt.gr ?_ _) | (refine RowAt.setOther ?_ _ _ (by (first | omega | (simp; done) | (simp; omega) | (simp at *; omega)))) | (refine RowAt.drew ?_)))
  clear hV
  obtain ⟨xc0, xc1, xf0, xf1, xl⟩ := x.two
  obtain ⟨yc0, yc1, yf0, yf1, yl⟩ := y.two
  refine wp_region_gr_tail 10 (by kernel_rfl) (by kernel_rfl) ?_
  simp only [List.take_succ_cons, List.take_zero, List.drop_succ_cons, List.drop_zero]
  repeat (go_big_quiet_step (first | (go_at_call 30; exact Calls.gr (compare_gr _ _ _))))
  refine wpQuiet_nil ?_
  intro g
  have hgl := g.le
  go_wp2_with fail
  refine (or_any _ _ _ _ (RowAt.of_new _ _ _)).mono ?_
  rintro e w4 ⟨rfl, hB4⟩
  have hBg : Below w.heap.size w w4 := (hBV.trans ((g.below.mono hBV.size).alloc (by have := hBV.size; omega) _)).trans (hB4.mono (by have := hBV.size; simp; omega))
  go_wp2_with fail
  all_goals
    go_ret
    exact ⟨rfl, hBg⟩
/-- Lists of labels, as slices.CompareFunc compares them. -/
def cmpLs : List BLab → List BLab → Int
  | [], [] => 0
  | [], _ :: _ => -1
  | _ :: _, [] => 1
  | x :: a, y :: b => if cmpL x y = 0 then cmpLs a b else cmpL x y
theorem cmpLs_step (L K : List BLab) (k : Nat) (h1 : k < L.length) (h2 : k < K.length) : cmpLs (L.drop k) (K.drop k) = if cmpL L[k] K[k] = 0 then cmpLs (L.drop (k + 1)) (K.drop (k + 1)) else cmpL L[k] K[k] := by
  rw [List.drop_eq_getElem_cons h1, List.drop_eq_getElem_cons h2]
  rfl
theorem LabelsAt.form {B : Nat} {w : World} {v : Value} {L : List BLab} (h : LabelsAt B w v L) : L.length ≤ 1000000 ∧ ∃ p cap, v = .slice p L.length cap ∧ (L ≠ [] → ∃ a off, p = some ⟨a, off, none⟩ ∧ a < B ∧ L.length ≤ cap ∧ ∀ i (h : i < L.length), w.cell? ⟨a, off + i * 2, none⟩ = some (.string L[i].1) ∧ w.cell? ⟨a, off + i * 2 + 1, none⟩ = some (.string L[i].2)) := by
  obtain ⟨-, n2, ⟨a, rfl, rfl⟩ | ⟨a, off, cap, rfl, h4, h5, h6⟩⟩ := h
  · exact ⟨n2, a, 0, rfl, fun h => absurd rfl h⟩
  · exact ⟨n2, some ⟨a, off, none⟩, cap, rfl, fun _ => ⟨a, off, rfl, h4, h5, h6⟩⟩
theorem egLess : ∀ args w, (callFunc 47 args).run Tryz.prog w = .ok (.enter 47 args) w := enters_of Tryz.func47 (by kernel_rfl) rfl
set_option maxRecDepth 100000 in
set_option maxHeartbeats 1000000 in
theorem compareFunc_any (v u : Value) (L K : List BLab) (w : World) (hL : LabelsAt w.heap.size w v L) (hK : LabelsAt w.heap.size w u K) :
    Calls Tryz.prog 46 #[v, u, .func (.func 47) #[] #[]] w fun e w' => e = .returned (.int .i64 (cmpLs L K)) ∧ Below w.heap.size w w' := by
  obtain ⟨n1, p, cp, rfl, hp⟩ := hL.form
  obtain ⟨n2, q, cq, rfl, hq⟩ := hK.form
  have h0 : cmpLs (L.drop 0) (K.drop 0) = cmpLs L K := rfl
  generalize cmpLs L K = C at *
  clear hL hK
  have H0 := Lib.hid h0
  clear h0
  go_enter Tryz.func46, Tryz.ntmps46
  go_wp2
  go_loopw [13] (fun i wr => ∃ k : Nat, k ≤ L.length ∧ k ≤ K.length ∧ i = .int .i64 k ∧ cmpLs (L.drop k) (K.drop k) = C ∧ Below w.heap.size w wr)
    (fun i _ => L.length - (intOf i).toNat)
  case atStart => exact ⟨0, by omega, by omega, rfl, H0.out, Below.refl _ _⟩
  case round =>
    obtain ⟨k, hk1, hk2, rfl, hC, hB⟩ := hrel
    have hBs := hB.size
    by_cases hkL : k < L.length
    · have hkl : (k : Int) < L.length := by omega
      obtain ⟨a, off, rfl, ha, hcp, hcc⟩ := hp (by rintro rfl; simp at hkL)
      obtain ⟨c0, c1⟩ := hcc k hkL
      rw [← hB.cell (p := ⟨a, off + k * 2, none⟩) ha] at c0
      rw [← hB.cell (p := ⟨a, off + k * 2 + 1, none⟩) ha] at c1
      have hal : a < wr.heap.size := by omega
      by_cases hkK : k < K.length
      · have hkk : (k : Int) < K.length := by omega
        obtain ⟨b, off2, rfl, hb, hcq, hdd⟩ := hq (by rintro rfl; simp at hkK)
        obtain ⟨d0, d1⟩ := hdd k hkK
        rw [← hB.cell (p := ⟨b, off2 + k * 2, none⟩) hb] at d0
        rw [← hB.cell (p := ⟨b, off2 + k * 2 + 1, none⟩) hb] at d1
        have hbl : b < wr.heap.size := by omega
        rw [cmpLs_step L K k hkL hkK] at hC
        have hl := fun W => less1_any L[k] K[k] W
        generalize cmpL L[k] K[k] = r at *
        rcases hLk : L[k] with ⟨x1, x2⟩
        rcases hKk : K[k] with ⟨y1, y2⟩
        rw [hLk] at c0 c1 hl
        rw [hKk] at d0 d1 hl
        have HCC := Lib.hid hC
        clear hcc hdd hp hq hC hLk hKk
        by_cases hr : r = 0
        · subst hr
          go_wp2_with (go_at_call 47; refine (hl _).mono ?_; rintro e w4 ⟨rfl, hB4⟩; have hB4' : Below w.heap.size w w4 := ((hB.alloc hBs _).alloc (by simp; omega) _).trans (hB4.mono (by simp; omega)))
          go_roundw
          case rel => exact ⟨k + 1, by omega, by omega, by go_num, by have := HCC.out; simpa using this, hB4'⟩
          case measure => simp [intOf]; omega
        · have hrC : r = C := by have := HCC.out; rwa [if_neg hr] at this
          subst hrC
          go_wp2_with (go_at_call 47; refine (hl _).mono ?_; rintro e w4 ⟨rfl, hB4⟩; have hB4' : Below w.heap.size w w4 := ((hB.alloc hBs _).alloc (by simp; omega) _).trans (hB4.mono (by simp; omega)))
          go_ret
          exact ⟨rfl, hB4'⟩
      · have hkk : (K.length : Int) ≤ k := by omega
        have hC1 : C = 1 := by
          rw [← hC, List.drop_eq_getElem_cons hkL, List.drop_eq_nil_of_le (show K.length ≤ k by omega)]
          rfl
        subst hC1
        rcases hLk : L[k] with ⟨x1, x2⟩
        rw [hLk] at c0 c1
        clear hcc hp hq hC hLk
        go_wp2
        go_ret
        exact ⟨rfl, hB.alloc hBs _⟩
    · have hkl : (L.length : Int) ≤ k := by omega
      by_cases hlt : (L.length : Int) < K.length
      · have hC1 : C = -1 := by
          rw [← hC, List.drop_eq_nil_of_le (show L.length ≤ k by omega), List.drop_eq_getElem_cons (show k < K.length by omega)]
          rfl
        subst hC1
        clear hp hq hC
        go_wp2
        go_ret
        exact ⟨rfl, hB⟩
      · have hC1 : C = 0 := by
          rw [← hC, List.drop_eq_nil_of_le (show L.length ≤ k by omega), List.drop_eq_nil_of_le (show K.length ≤ k by omega)]
          rfl
        subst hC1
        clear hp hq hC
        go_wp2
        go_ret
        exact ⟨rfl, hB⟩
theorem less_any (v u : Value) (L K : List BLab) (w : World) (hL : LabelsAt w.heap.size w v L) (hK : LabelsAt w.heap.size w u K) :
    Calls Tryz.prog 24 #[v, u] w fun e w' => e = .returned (.bool (decide (cmpLs L K < 0))) ∧ Below w.heap.size w w' := by
  have h := compareFunc_any v u L K w hL hK
  obtain ⟨-, p, cp, rfl, -⟩ := hL.form
  obtain ⟨-, q, cq, rfl, -⟩ := hK.form
  clear hL hK
  generalize cmpLs L K = C at *
  go_enter Tryz.func24, Tryz.ntmps24
  go_wp2_with fail
  refine h.mono ?_
  rintro e w1 ⟨rfl, hB⟩
  go_wp2_with fail
  all_goals
    go_ret
    exact ⟨by simp, hB⟩
end Go.Proofs.YtjhdgpboofcelaaGreat
