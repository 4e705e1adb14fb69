/- The law HllMerges' walk. -/
import Derived.Test.YtngahohheleeeaaDoorO6
import Derived.Test.YtngahohheleeeaaDoorL0
import Derived.Test.YtngahohheleeeaaDoorTail2
namespace Go.Proofs.YtngahohheleeeaaDoor
open Go.RowKit

def fewS (s : ByteArray) : ByteArray := s.extract 0 (min (s.size : Int) 260).toNat
theorem Few_any (b : Int) (s : ByteArray) (w : World) :
    Calls Tryd.prog 12 #[.agg #[.int .i64 b, .string s]] w fun e w' => e = .returned (.agg #[.int .i64 b, .string (fewS s)]) ∧ Below w.heap.size w w' := by
  unfold fewS
  go_enter Tryd.func12, Tryd.ntmps12
  go_wp2
  refine wp_region_gr_tail 10 (by kernel_rfl) (by kernel_rfl) ?_
  simp only [List.take_succ_cons, List.take_zero, List.drop_succ_cons, List.drop_zero]
  repeat (go_big_quiet_step (first | fail))
  refine wpQuiet_nil ?_
  intro g
  go_wp2
  have hgl := g.le
  simp only [World.size_alloc] at hgl
  generalize s.extract 0 (min (s.size : Int) 260).toNat = S
  exact bodyPost_ret (v := .agg #[.int .i64 b, .string S]) (by simp [results, Tryd.results12, go_sem]) rfl ⟨rfl, (by repeat (first | exact Below.refl _ _ | assumption | (refine Below.setCell ?_ (by (first | omega | (simp; done) | (simp; omega) | (simp at *; omega))) _) | (refine Below.alloc ?_ (by (first | omega | (simp; done) | (simp; omega) | (simp at *; omega))) _) | (refine Below.drew ?_) | (refine Gr.into _ ?_ (by (first | omega | (simp; done) | (simp; omega) | (simp at *; omega))))))⟩


theorem merge_both (b c : Int) (s t : ByteArray) : ∃ (B : Int) (S : ByteArray) (E : Int), (∀ W, Calls Tryd.prog 13 #[.agg #[.int .i64 b, .string s], .agg #[.int .i64 c, .string t]] W fun e w' => e = hllRes B S E ∧ Below W.heap.size W w') ∧
    (∀ W, Calls Tryd.prog 14 #[.agg #[.int .i64 b, .string s], .agg #[.int .i64 c, .string t]] W fun e w' => e = hllRes B S E ∧ Below W.heap.size W w') := by
  cases h : rightB b s.data.toList
  · exact ⟨0, ⟨#[]⟩, 70, fun W => merge_no1 b c s t W h, fun W => rmerge_no1 b c s t W h⟩
  · cases h2 : rightB c t.data.toList
    · exact ⟨0, ⟨#[]⟩, 70, fun W => merge_no2 b c s t W h (.inl h2), fun W => rmerge_no2 b c s t W h h2⟩
    · by_cases h3 : b = c
      · subst h3
        obtain ⟨h4, h5⟩ := isBits_bd (rightB_bits h)
        obtain ⟨m, rfl⟩ := Int.eq_ofNat_of_zero_le (a := b) (by omega)
        exact ⟨m, _, 0, fun W => merge_yes m s t W h h2, fun W => rmerge_yes m s t W h h2⟩
      · have h4 : (b != c) = true := by simpa using h3
        exact ⟨0, ⟨#[]⟩, 70, fun W => merge_no2 b c s t W h (.inr h4), fun W => rmerge_no3 b c s t W h h2 h4⟩
theorem lower_both (b : Int) (s : ByteArray) : ∃ (B : Int) (S : ByteArray) (E : Int), (∀ W, Calls Tryd.prog 15 #[.agg #[.int .i64 b, .string s]] W fun e w' => e = hllRes B S E ∧ Below W.heap.size W w') ∧
    (∀ W, Calls Tryd.prog 16 #[.agg #[.int .i64 b, .string s]] W fun e w' => e = hllRes B S E ∧ Below W.heap.size W w') := by
  cases h : rightB b s.data.toList
  · exact ⟨0, ⟨#[]⟩, 70, fun W => lower_no1 b s W h, fun W => rlower_no1 b s W h⟩
  · obtain ⟨h4, h5⟩ := isBits_bd (rightB_bits h)
    obtain ⟨m, rfl⟩ := Int.eq_ofNat_of_zero_le (a := b) (by omega)
    by_cases h3 : m = 3
    · subst h3
      exact ⟨0, ⟨#[]⟩, 70, fun W => lower_no2 s W h, fun W => rlower_no2 s W h⟩
    · exact ⟨(m - 1 : Nat), _, 0, fun W => lower_yes m s W h (by omega), fun W => rlower_yes m s W h (by omega)⟩
theorem count_both (b : Int) (s : ByteArray) : ∃ n : Nat, (∀ W, Calls Tryd.prog 10 #[.agg #[.int .i64 b, .string s]] W fun e w' => e = .returned (.int .u64 n) ∧ Below W.heap.size W w') ∧
    (∀ W, Calls Tryd.prog 17 #[.agg #[.int .i64 b, .string s]] W fun e w' => e = .returned (.int .u64 n) ∧ Below W.heap.size W w') :=
  ⟨_, count_any b s, rcount_any b s⟩

set_option maxRecDepth 100000 in
set_option maxHeartbeats 2000000 in
theorem merges_all (xb : Int) (xs : ByteArray) (yb : Int) (ys : ByteArray) (w : World) :
    Calls Tryd.prog 4 #[.agg #[.int .i64 xb, .string xs], .agg #[.int .i64 yb, .string ys]] w fun e w' => e = .returned (.bool true) ∧ Below w.heap.size w w' := by
  obtain ⟨B1, S1, E1, mg1, mg2⟩ := merge_both xb yb (fewS xs) (fewS ys)
  obtain ⟨B2, S2, E2, lo1, lo2⟩ := lower_both xb (fewS xs)
  obtain ⟨n, ct1, ct2⟩ := count_both xb (fewS xs)
  go_enter Tryd.func4, Tryd.ntmps4
  go_wp2_with fail
  with_reducible refine Calls.mono (Calls.gr0 (shown_any _)) ?_
  rintro e w' ⟨rfl, g, rfl⟩
  have hgl := g.le
  try simp only [World.size_alloc] at hgl
  try simp only [World.size_setCell] at hgl
  go_wp2_with fail
  with_reducible refine Calls.mono (Calls.gr (Few_any _ _ _)) ?_
  rintro e w' ⟨rfl, g, rfl⟩
  have hgl := g.le
  try simp only [World.size_alloc] at hgl
  try simp only [World.size_setCell] at hgl
  go_wp2_with fail
  refine Calls.named (fun W hW => ?_)
  have hBW : Below w.heap.size w W := by rw [hW]; exact (by repeat (first | exact Below.refl _ _ | assumption | (refine Below.setCell ?_ (by (first | omega | (simp; done) | (simp; omega) | (simp at *; omega))) _) | (refine Below.alloc ?_ (by (first | omega | (simp; done) | (simp; omega) | (simp at *; omega))) _) | (refine Below.drew ?_) | (refine Gr.into _ ?_ (by (first | omega | (simp; done) | (simp; omega) | (simp at *; omega))))))
  have x : RowAt W w.heap.size 26 [.int .i64 xb, .string (fewS xs)] := by rw [hW]; exact ((((RowAt.new_at w #[.int .i64 xb, .string xs] 26 w.heap.size rfl).alloc _).gr g).set 0 (.int .i64 xb)).set 1 (.string (fewS xs))
  have y : RowAt W (w.heap.size + 1) 26 [.int .i64 yb, .string ys] := by rw [hW]; exact (((RowAt.new_at (w.alloc (.cells #[.int .i64 xb, .string xs] 26)) #[.int .i64 yb, .string ys] 26 (w.heap.size + 1) (by simp)).gr g).setOther _ _ (by show w.heap.size + 1 ≠ w.heap.size; omega)).setOther _ _ (by show w.heap.size + 1 ≠ w.heap.size; omega)
  clear hW
  obtain ⟨xc0, xc1, xf0, xf1, xl⟩ := x.two
  obtain ⟨yc0, yc1, yf0, yf1, yl⟩ := y.two
  clear hgl g
  with_reducible refine Calls.mono (Calls.gr0 (Few_any _ _ _)) ?_
  rintro e w' ⟨rfl, g, rfl⟩
  have hgl := g.le
  try simp only [World.size_alloc] at hgl
  try simp only [World.size_setCell] at hgl
  go_wp2_with fail
  refine Calls.named (fun V hV => ?_)
  have hBV : Below w.heap.size w V := by rw [hV]; exact (by repeat (first | exact Below.refl _ _ | assumption | (refine Below.setCell ?_ (by (first | omega | (simp; done) | (simp; omega) | (simp at *; omega))) _) | (refine Below.alloc ?_ (by (first | omega | (simp; done) | (simp; omega) | (simp at *; omega))) _) | (refine Below.drew ?_) | (refine Gr.into _ ?_ (by (first | omega | (simp; done) | (simp; omega) | (simp at *; omega))))))
  have x1 : RowAt V w.heap.size 26 [.int .i64 xb, .string (fewS xs)] := by rw [hV]; exact ((x.gr g).setOther _ _ (by show w.heap.size ≠ w.heap.size + 1; omega)).setOther _ _ (by show w.heap.size ≠ w.heap.size + 1; omega)
  have y1 : RowAt V (w.heap.size + 1) 26 [.int .i64 yb, .string (fewS ys)] := by rw [hV]; exact ((y.gr g).set 0 (.int .i64 yb)).set 1 (.string (fewS ys))
  clear hV
  clear x y xc0 xc1 xf0 xf1 xl yc0 yc1 yf0 yf1 yl hgl g
  obtain ⟨xc0, xc1, xf0, xf1, xl⟩ := x1.two
  obtain ⟨yc0, yc1, yf0, yf1, yl⟩ := y1.two
  have x := x1
  have y := y1
  with_reducible refine Calls.mono (Calls.gr0 (mg1 _)) ?_
  rintro e w' ⟨rfl, g, rfl⟩
  have hgl := g.le
  try simp only [World.size_alloc] at hgl
  try simp only [World.size_setCell] at hgl
  go_wp2_with fail
  refine Calls.named (fun W hW => ?_)
  have hBW : Below w.heap.size w W := by rw [hW]; exact (by repeat (first | exact Below.refl _ _ | assumption | (refine Below.setCell ?_ (by (first | omega | (simp; done) | (simp; omega) | (simp at *; omega))) _) | (refine Below.alloc ?_ (by (first | omega | (simp; done) | (simp; omega) | (simp at *; omega))) _) | (refine Below.drew ?_) | (refine Gr.into _ ?_ (by (first | omega | (simp; done) | (simp; omega) | (simp at *; omega))))))
  have x : RowAt W (w.heap.size) 26 [.int .i64 xb, .string (fewS xs)] := by rw [hW]; exact (by repeat (first | assumption | exact RowAt.new_at _ _ _ _ (by (first | omega | (simp; done) | (simp; omega) | (simp at *; omega))) | (refine RowAt.alloc ?_ _) | (refine RowAt.gr ?_ _) | (refine RowAt.setOther ?_ _ _ (by (first | omega | (simp; done) | (simp; omega) | (simp at *; omega)))) | (refine RowAt.drew ?_)))
  have y : RowAt W (w.heap.size + 1) 26 [.int .i64 yb, .string (fewS ys)] := by rw [hW]; exact (by repeat (first | assumption | exact RowAt.new_at _ _ _ _ (by (first | omega | (simp; done) | (simp; omega) | (simp at *; omega))) | (refine RowAt.alloc ?_ _) | (refine RowAt.gr ?_ _) | (refine RowAt.setOther ?_ _ _ (by (first | omega | (simp; done) | (simp; omega) | (simp at *; omega)))) | (refine RowAt.drew ?_)))
  have a : RowAt W (g.world.heap.size) 26 [.int .i64 B1, .string S1] := by rw [hW]; exact (by repeat (first | assumption | exact RowAt.new_at _ _ _ _ (by (first | omega | (simp; done) | (simp; omega) | (simp at *; omega))) | (refine RowAt.alloc ?_ _) | (refine RowAt.gr ?_ _) | (refine RowAt.setOther ?_ _ _ (by (first | omega | (simp; done) | (simp; omega) | (simp at *; omega)))) | (refine RowAt.drew ?_)))
  clear hW
  obtain ⟨xc0, xc1, xf0, xf1, xl⟩ := x.two
  obtain ⟨yc0, yc1, yf0, yf1, yl⟩ := y.two
  obtain ⟨ac0, ac1, af0, af1, al⟩ := a.two
  generalize g.world.heap.size = ka at *
  clear g
  with_reducible refine Calls.mono (Calls.gr0 (mg2 _)) ?_
  rintro e w' ⟨rfl, g, rfl⟩
  have hgl := g.le
  try simp only [World.size_alloc] at hgl
  try simp only [World.size_setCell] at hgl
  go_wp2_with fail
  refine Calls.named (fun W hW => ?_)
  have hBW : Below w.heap.size w W := by rw [hW]; exact (by repeat (first | exact Below.refl _ _ | assumption | (refine Below.setCell ?_ (by (first | omega | (simp; done) | (simp; omega) | (simp at *; omega))) _) | (refine Below.alloc ?_ (by (first | omega | (simp; done) | (simp; omega) | (simp at *; omega))) _) | (refine Below.drew ?_) | (refine Gr.into _ ?_ (by (first | omega | (simp; done) | (simp; omega) | (simp at *; omega))))))
  have x : RowAt W (w.heap.size) 26 [.int .i64 xb, .string (fewS xs)] := by rw [hW]; exact (by repeat (first | assumption | exact RowAt.new_at _ _ _ _ (by (first | omega | (simp; done) | (simp; omega) | (simp at *; omega))) | (refine RowAt.alloc ?_ _) | (refine RowAt.gr ?_ _) | (refine RowAt.setOther ?_ _ _ (by (first | omega | (simp; done) | (simp; omega) | (simp at *; omega)))) | (refine RowAt.drew ?_)))
  have y : RowAt W (w.heap.size + 1) 26 [.int .i64 yb, .string (fewS ys)] := by rw [hW]; exact (by repeat (first | assumption | exact RowAt.new_at _ _ _ _ (by (first | omega | (simp; done) | (simp; omega) | (simp at *; omega))) | (refine RowAt.alloc ?_ _) | (refine RowAt.gr ?_ _) | (refine RowAt.setOther ?_ _ _ (by (first | omega | (simp; done) | (simp; omega) | (simp at *; omega)))) | (refine RowAt.drew ?_)))
  have a : RowAt W (ka) 26 [.int .i64 B1, .string S1] := by rw [hW]; exact (by repeat (first | assumption | exact RowAt.new_at _ _ _ _ (by (first | omega | (simp; done) | (simp; omega) | (simp at *; omega))) | (refine RowAt.alloc ?_ _) | (refine RowAt.gr ?_ _) | (refine RowAt.setOther ?_ _ _ (by (first | omega | (simp; done) | (simp; omega) | (simp at *; omega)))) | (refine RowAt.drew ?_)))
  have b2 : RowAt W (g.world.heap.size) 26 [.int .i64 B1, .string S1] := by rw [hW]; exact (by repeat (first | assumption | exact RowAt.new_at _ _ _ _ (by (first | omega | (simp; done) | (simp; omega) | (simp at *; omega))) | (refine RowAt.alloc ?_ _) | (refine RowAt.gr ?_ _) | (refine RowAt.setOther ?_ _ _ (by (first | omega | (simp; done) | (simp; omega) | (simp at *; omega)))) | (refine RowAt.drew ?_)))
  clear hW
  obtain ⟨xc0, xc1, xf0, xf1, xl⟩ := x.two
  obtain ⟨yc0, yc1, yf0, yf1, yl⟩ := y.two
  obtain ⟨ac0, ac1, af0, af1, al⟩ := a.two
  obtain ⟨b2c0, b2c1, b2f0, b2f1, b2l⟩ := b2.two
  generalize g.world.heap.size = kb2 at *
  clear g
  with_reducible refine Calls.mono (Calls.gr0 (lo1 _)) ?_
  rintro e w' ⟨rfl, g, rfl⟩
  have hgl := g.le
  try simp only [World.size_alloc] at hgl
  try simp only [World.size_setCell] at hgl
  go_wp2_with fail
  refine Calls.named (fun W hW => ?_)
  have hBW : Below w.heap.size w W := by rw [hW]; exact (by repeat (first | exact Below.refl _ _ | assumption | (refine Below.setCell ?_ (by (first | omega | (simp; done) | (simp; omega) | (simp at *; omega))) _) | (refine Below.alloc ?_ (by (first | omega | (simp; done) | (simp; omega) | (simp at *; omega))) _) | (refine Below.drew ?_) | (refine Gr.into _ ?_ (by (first | omega | (simp; done) | (simp; omega) | (simp at *; omega))))))
  have x : RowAt W (w.heap.size) 26 [.int .i64 xb, .string (fewS xs)] := by rw [hW]; exact (by repeat (first | assumption | exact RowAt.new_at _ _ _ _ (by (first | omega | (simp; done) | (simp; omega) | (simp at *; omega))) | (refine RowAt.alloc ?_ _) | (refine RowAt.gr ?_ _) | (refine RowAt.setOther ?_ _ _ (by (first | omega | (simp; done) | (simp; omega) | (simp at *; omega)))) | (refine RowAt.drew ?_)))
  have y : RowAt W (w.heap.size + 1) 26 [.int .i64 yb, .string (fewS ys)] := by rw [hW]; exact (by repeat (first | assumption | exact RowAt.new_at _ _ _ _ (by (first | omega | (simp; done) | (simp; omega) | (simp at *; omega))) | (refine RowAt.alloc ?_ _) | (refine RowAt.gr ?_ _) | (refine RowAt.setOther ?_ _ _ (by (first | omega | (simp; done) | (simp; omega) | (simp at *; omega)))) | (refine RowAt.drew ?_)))
  have a : RowAt W (ka) 26 [.int .i64 B1, .string S1] := by rw [hW]; exact (by repeat (first | assumption | exact RowAt.new_at _ _ _ _ (by (first | omega | (simp; done) | (simp; omega) | (simp at *; omega))) | (refine RowAt.alloc ?_ _) | (refine RowAt.gr ?_ _) | (refine RowAt.setOther ?_ _ _ (by (first | omega | (simp; done) | (simp; omega) | (simp at *; omega)))) | (refine RowAt.drew ?_)))
  have b2 : RowAt W (kb2) 26 [.int .i64 B1, .string S1] := by rw [hW]; exact (by repeat (first | assumption | exact RowAt.new_at _ _ _ _ (by (first | omega | (simp; done) | (simp; omega) | (simp at *; omega))) | (refine RowAt.alloc ?_ _) | (refine RowAt.gr ?_ _) | (refine RowAt.setOther ?_ _ _ (by (first | omega | (simp; done) | (simp; omega) | (simp at *; omega)))) | (refine RowAt.drew ?_)))
  have c : RowAt W (g.world.heap.size) 26 [.int .i64 B2, .string S2] := by rw [hW]; exact (by repeat (first | assumption | exact RowAt.new_at _ _ _ _ (by (first | omega | (simp; done) | (simp; omega) | (simp at *; omega))) | (refine RowAt.alloc ?_ _) | (refine RowAt.gr ?_ _) | (refine RowAt.setOther ?_ _ _ (by (first | omega | (simp; done) | (simp; omega) | (simp at *; omega)))) | (refine RowAt.drew ?_)))
  clear hW
  obtain ⟨xc0, xc1, xf0, xf1, xl⟩ := x.two
  obtain ⟨yc0, yc1, yf0, yf1, yl⟩ := y.two
  obtain ⟨ac0, ac1, af0, af1, al⟩ := a.two
  obtain ⟨b2c0, b2c1, b2f0, b2f1, b2l⟩ := b2.two
  obtain ⟨cc0, cc1, cf0, cf1, cl⟩ := c.two
  generalize g.world.heap.size = kc at *
  clear g
  with_reducible refine Calls.mono (Calls.gr0 (lo2 _)) ?_
  rintro e w' ⟨rfl, g, rfl⟩
  have hgl := g.le
  try simp only [World.size_alloc] at hgl
  try simp only [World.size_setCell] at hgl
  go_wp2_with fail
  refine wp_named (fun W hW => ?_)
  have hBW : Below w.heap.size w W := by rw [hW]; exact (by repeat (first | exact Below.refl _ _ | assumption | (refine Below.setCell ?_ (by (first | omega | (simp; done) | (simp; omega) | (simp at *; omega))) _) | (refine Below.alloc ?_ (by (first | omega | (simp; done) | (simp; omega) | (simp at *; omega))) _) | (refine Below.drew ?_) | (refine Gr.into _ ?_ (by (first | omega | (simp; done) | (simp; omega) | (simp at *; omega))))))
  have x : RowAt W (w.heap.size) 26 [.int .i64 xb, .string (fewS xs)] := by rw [hW]; exact (by repeat (first | assumption | exact RowAt.new_at _ _ _ _ (by (first | omega | (simp; done) | (simp; omega) | (simp at *; omega))) | (refine RowAt.alloc ?_ _) | (refine RowAt.gr ?_ _) | (refine RowAt.setOther ?_ _ _ (by (first | omega | (simp; done) | (simp; omega) | (simp at *; omega)))) | (refine RowAt.drew ?_)))
  have y : RowAt W (w.heap.size + 1) 26 [.int .i64 yb, .string (fewS ys)] := by rw [hW]; exact (by repeat (first | assumption | exact RowAt.new_at _ _ _ _ (by (first | omega | (simp; done) | (simp; omega) | (simp at *; omega))) | (refine RowAt.alloc ?_ _) | (refine RowAt.gr ?_ _) | (refine RowAt.setOther ?_ _ _ (by (first | omega | (simp; done) | (simp; omega) | (simp at *; omega)))) | (refine RowAt.drew ?_)))
  have a : RowAt W (ka) 26 [.int .i64 B1, .string S1] := by rw [hW]; exact (by repeat (first | assumption | exact RowAt.new_at _ _ _ _ (by (first | omega | (simp; done) | (simp; omega) | (simp at *; omega))) | (refine RowAt.alloc ?_ _) | (refine RowAt.gr ?_ _) | (refine RowAt.setOther ?_ _ _ (by (first | omega | (simp; done) | (simp; omega) | (simp at *; omega)))) | (refine RowAt.drew ?_)))
  have b2 : RowAt W (kb2) 26 [.int .i64 B1, .string S1] := by rw [hW]; exact (by repeat (first | assumption | exact RowAt.new_at _ _ _ _ (by (first | omega | (simp; done) | (simp; omega) | (simp at *; omega))) | (refine RowAt.alloc ?_ _) | (refine RowAt.gr ?_ _) | (refine RowAt.setOther ?_ _ _ (by (first | omega | (simp; done) | (simp; omega) | (simp at *; omega)))) | (refine RowAt.drew ?_)))
  have c : RowAt W (kc) 26 [.int .i64 B2, .string S2] := by rw [hW]; exact (by repeat (first | assumption | exact RowAt.new_at _ _ _ _ (by (first | omega | (simp; done) | (simp; omega) | (simp at *; omega))) | (refine RowAt.alloc ?_ _) | (refine RowAt.gr ?_ _) | (refine RowAt.setOther ?_ _ _ (by (first | omega | (simp; done) | (simp; omega) | (simp at *; omega)))) | (refine RowAt.drew ?_)))
  have d : RowAt W (g.world.heap.size) 26 [.int .i64 B2, .string S2] := by rw [hW]; exact (by repeat (first | assumption | exact RowAt.new_at _ _ _ _ (by (first | omega | (simp; done) | (simp; omega) | (simp at *; omega))) | (refine RowAt.alloc ?_ _) | (refine RowAt.gr ?_ _) | (refine RowAt.setOther ?_ _ _ (by (first | omega | (simp; done) | (simp; omega) | (simp at *; omega)))) | (refine RowAt.drew ?_)))
  clear hW
  obtain ⟨xc0, xc1, xf0, xf1, xl⟩ := x.two
  obtain ⟨yc0, yc1, yf0, yf1, yl⟩ := y.two
  obtain ⟨ac0, ac1, af0, af1, al⟩ := a.two
  obtain ⟨b2c0, b2c1, b2f0, b2f1, b2l⟩ := b2.two
  obtain ⟨cc0, cc1, cf0, cf1, cl⟩ := c.two
  obtain ⟨dc0, dc1, df0, df1, dl⟩ := d.two
  generalize g.world.heap.size = kd at *
  clear g
  refine wp_region_gr (by kernel_rfl) (by kernel_rfl) ?_
  repeat (go_big_quiet_step (first | (go_at_call 10; exact Calls.gr (ct1 _)) | (go_at_call 17; exact Calls.gr (ct2 _))))
  refine wpQuiet_nil ?_
  intro g
  go_wp2
  go_ret
  exact ⟨by simp, (by repeat (first | exact Below.refl _ _ | assumption | (refine Below.setCell ?_ (by (first | omega | (simp; done) | (simp; omega) | (simp at *; omega))) _) | (refine Below.alloc ?_ (by (first | omega | (simp; done) | (simp; omega) | (simp at *; omega))) _) | (refine Below.drew ?_) | (refine Gr.into _ ?_ (by (first | omega | (simp; done) | (simp; omega) | (simp at *; omega))))))⟩
end Go.Proofs.YtngahohheleeeaaDoor
