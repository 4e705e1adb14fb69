/- The walk of the law HllGrows. -/
import Derived.Test.YtngahohheleeeaaDoorO2
import Derived.Test.YtngahohheleeeaaDoorL0
namespace Go.Proofs.YtngahohheleeeaaDoor
open Go.RowKit

theorem U64s.at_ {w W : World} {v : Value} {zs : List Nat} (h : U64s w.heap.size w v zs) (hb : Below w.heap.size w W) : U64s W.heap.size W v zs :=
  (h.below hb (Nat.le_refl _)).mono hb.size
theorem merge_calls {b : Nat} (h : isBitsB b = true) (xs ys : List Nat) (w : World) :
    Calls Tryd.prog 13 #[.agg #[.int .i64 b, .string ⟨(regsOf b xs).toArray⟩], .agg #[.int .i64 b, .string ⟨(regsOf b ys).toArray⟩]] w fun e w' => e = hllRes b ⟨(regsOf b (xs ++ ys)).toArray⟩ 0 ∧ Below w.heap.size w w' := by
  have hb := isBits_bd h
  have := merge_yes b ⟨(regsOf b xs).toArray⟩ ⟨(regsOf b ys).toArray⟩ w (regsOf_right h xs) (regsOf_right h ys)
  rwa [show mergeB (⟨(regsOf b xs).toArray⟩ : ByteArray).data.toList (⟨(regsOf b ys).toArray⟩ : ByteArray).data.toList = regsOf b (xs ++ ys) from merge_regsOf (by omega) xs ys] at this
theorem of_calls {b : Nat} (h : isBitsB b = true) {v : Value} {zs : List Nat} {w : World} (hz : U64s w.heap.size w v zs) :
    Calls Tryd.prog 6 #[.int .i64 b, v] w fun e w' => e = hllRes b ⟨(regsOf b zs).toArray⟩ 0 ∧ Below w.heap.size w w' := of_yes b v zs w h hz
/-- What a list of numbers is cut into. -/
theorem grows_no (b : Int) (v : Value) (zs : List Nat) (n : Int) (w : World) (h : isBitsB b = false) (hz : U64s w.heap.size w v zs) :
    Calls Tryd.prog 3 #[.int .i64 b, v, .int .u64 n] w fun e w' => e = .returned (.bool true) ∧ Below w.heap.size w w' := by
  go_enter Tryd.func3, Tryd.ntmps3
  go_wp2_with (first
    | (go_at_call 5; (first | (with_reducible refine Calls.mono (Calls.gr (shown_any _)) ?_) | (refine Calls.mono (Calls.gr0 (shown_any _)) ?_)); rintro e w' ⟨rfl, g, rfl⟩; have hgl := g.le; (try simp only [World.size_alloc] at hgl); (try simp only [World.size_setCell] at hgl)))
  refine Calls.mono (few_any _ _ _ _ (hz.at_ g.below)) ?_
  rintro e w' ⟨⟨u, rfl, hu⟩, rfl⟩
  go_wp2_with fail
  with_reducible refine Calls.mono (Calls.gr (of_no _ _ _ h)) ?_
  rintro e w' ⟨rfl, g, rfl⟩
  have hgl := g.le
  try simp only [World.size_alloc] at hgl
  try simp only [World.size_setCell] at hgl
  go_wp2_with fail
  go_ret
  exact ⟨rfl, (by repeat (first | exact Below.refl _ _ | assumption | (refine Below.setCell ?_ (by (first | omega | (simp; done) | (simp; omega) | (simp at *; omega))) _) | (refine Below.alloc ?_ (by (first | omega | (simp; done) | (simp; omega) | (simp at *; omega))) _) | (refine Below.drew ?_) | (refine Gr.into _ ?_ (by (first | omega | (simp; done) | (simp; omega) | (simp at *; omega))))))⟩

set_option maxRecDepth 100000 in
set_option maxHeartbeats 1000000 in
theorem grows_yes (b : Nat) (v : Value) (zs : List Nat) (n : Nat) (w : World) (hb : isBitsB b = true) (hz : U64s w.heap.size w v zs) (hn : n < 2 ^ 64) :
    Calls Tryd.prog 3 #[.int .i64 b, v, .int .u64 n] w fun e w' => e = .returned (.bool true) ∧ Below w.heap.size w w' := by
  obtain ⟨h3, h8⟩ := isBits_bd hb
  obtain ⟨SX, hSX⟩ : ∃ S : ByteArray, S = ⟨(regsOf b (zs.take 100)).toArray⟩ := ⟨_, rfl⟩
  obtain ⟨SY, hSY⟩ : ∃ S : ByteArray, S = ⟨(addReg b (regsOf b (zs.take 100)) n).toArray⟩ := ⟨_, rfl⟩
  obtain ⟨SN, hSN⟩ : ∃ S : ByteArray, S = ⟨(noRegs b).toArray⟩ := ⟨_, rfl⟩
  have hX := regsOf_right hb (zs.take 100)
  have hXl := regsOf_length b (zs.take 100)
  have hY := rightB_addReg hX n
  obtain ⟨kx, hkx⟩ : ∃ k, k = countN (regsOf b (zs.take 100)) := ⟨_, rfl⟩
  obtain ⟨ky, hky⟩ : ∃ k, k = countN (addReg b (regsOf b (zs.take 100)) n) := ⟨_, rfl⟩
  have hxy : kx ≤ ky := by
    rw [hkx, hky]
    exact countN_mono (by rw [addReg_length]) fun i hi => val_addReg_le n (by omega) hi
  have hy0 : 0 < ky := by
    rw [hky]
    exact countN_pos (by rw [addReg_length, hXl]; exact Nat.pow_le_pow_right (n := 2) (by omega) (by omega : 3 ≤ b)) (addReg_not_zero n (by omega) hXl hn)
  have cX : ∀ u W, U64s W.heap.size W u (zs.take 100) → Calls Tryd.prog 6 #[.int .i64 b, u] W fun e w' => e = hllRes b SX 0 ∧ Below W.heap.size W w' := fun u W hu => by
    rw [hSX]; exact of_calls hb hu
  have cY : ∀ W, Calls Tryd.prog 8 #[.agg #[.int .i64 b, .string SX], .int .u64 n] W fun e w' => e = hllRes b SY 0 ∧ Below W.heap.size W w' := fun W => by
    rw [hSX, hSY]; exact add_yes b n ⟨(regsOf b (zs.take 100)).toArray⟩ W hX hn
  have cN : ∀ W, Calls Tryd.prog 9 #[.int .i64 b] W fun e w' => e = hllRes b SN 0 ∧ Below W.heap.size W w' := fun W => by
    rw [hSN]; exact new_yes b W hb
  have tX : ∀ W, Calls Tryd.prog 10 #[.agg #[.int .i64 b, .string SX]] W fun e w' => e = .returned (.int .u64 kx) ∧ Below W.heap.size W w' := fun W => by
    rw [hSX, hkx]; exact count_yes b ⟨(regsOf b (zs.take 100)).toArray⟩ W hX
  have tY : ∀ W, Calls Tryd.prog 10 #[.agg #[.int .i64 b, .string SY]] W fun e w' => e = .returned (.int .u64 ky) ∧ Below W.heap.size W w' := fun W => by
    rw [hSY, hky]; exact count_yes b ⟨(addReg b (regsOf b (zs.take 100)) n).toArray⟩ W hY
  have tN : ∀ W, Calls Tryd.prog 10 #[.agg #[.int .i64 b, .string SN]] W fun e w' => e = .returned (.int .u64 0) ∧ Below W.heap.size W w' := fun W => by
    rw [hSN]
    have := count_yes b ⟨(noRegs b).toArray⟩ W (noRegs_right b hb)
    rw [show countN (⟨(noRegs b).toArray⟩ : ByteArray).data.toList = 0 from countN_noRegs b] at this
    exact this
  have rY : ∀ W, Calls Tryd.prog 11 #[.agg #[.int .i64 b, .string SY]] W fun e w' => e = .returned (.bool true) ∧ Below W.heap.size W w' := fun W => by
    rw [hSY]
    have := right_any b ⟨(addReg b (regsOf b (zs.take 100)) n).toArray⟩ W
    rw [show rightB b (⟨(addReg b (regsOf b (zs.take 100)) n).toArray⟩ : ByteArray).data.toList = true from hY] at this
    exact this
  clear hSX hSY hSN hX hXl hY hkx hky hb
  go_enter Tryd.func3, Tryd.ntmps3
  go_wp2_with (first
    | (go_at_call 5; (first | (with_reducible refine Calls.mono (Calls.gr (shown_any _)) ?_) | (refine Calls.mono (Calls.gr0 (shown_any _)) ?_)); rintro e w' ⟨rfl, g, rfl⟩; have hgl := g.le; (try simp only [World.size_alloc] at hgl); (try simp only [World.size_setCell] at hgl)))
  refine Calls.mono (few_any _ _ _ _ (hz.at_ g.below)) ?_
  rintro e w' ⟨⟨u, rfl, hu⟩, rfl⟩
  go_wp2_with fail
  with_reducible refine Calls.mono (Calls.gr (cX _ _ hu)) ?_
  rintro e w' ⟨rfl, g, rfl⟩
  have hgl := g.le
  try simp only [World.size_alloc] at hgl
  try simp only [World.size_setCell] at hgl
  go_wp2_with fail
  refine Calls.named (fun W hW => ?_)
  have hBW : Below w.heap.size w W := by rw [hW]; exact (by repeat (first | exact Below.refl _ _ | assumption | (refine Below.setCell ?_ (by (first | omega | (simp; done) | (simp; omega) | (simp at *; omega))) _) | (refine Below.alloc ?_ (by (first | omega | (simp; done) | (simp; omega) | (simp at *; omega))) _) | (refine Below.drew ?_) | (refine Gr.into _ ?_ (by (first | omega | (simp; done) | (simp; omega) | (simp at *; omega))))))
  have x : RowAt W (g.world.heap.size) 26 [.int .i64 b, .string SX] := by rw [hW]; exact (by repeat (first | assumption | exact RowAt.new_at _ _ _ _ (by (first | omega | (simp; done) | (simp; omega) | (simp at *; omega))) | (refine RowAt.alloc ?_ _) | (refine RowAt.gr ?_ _) | (refine RowAt.setOther ?_ _ _ (by (first | omega | (simp; done) | (simp; omega) | (simp at *; omega)))) | (refine RowAt.drew ?_)))
  clear hW
  obtain ⟨xc0, xc1, xf0, xf1, xl⟩ := x.two
  generalize g.world.heap.size = kx at *
  clear g
  with_reducible refine Calls.mono (Calls.gr0 (cY _)) ?_
  rintro e w' ⟨rfl, g, rfl⟩
  have hgl := g.le
  try simp only [World.size_alloc] at hgl
  try simp only [World.size_setCell] at hgl
  go_wp2_with fail
  refine Calls.named (fun W hW => ?_)
  have hBW : Below w.heap.size w W := by rw [hW]; exact (by repeat (first | exact Below.refl _ _ | assumption | (refine Below.setCell ?_ (by (first | omega | (simp; done) | (simp; omega) | (simp at *; omega))) _) | (refine Below.alloc ?_ (by (first | omega | (simp; done) | (simp; omega) | (simp at *; omega))) _) | (refine Below.drew ?_) | (refine Gr.into _ ?_ (by (first | omega | (simp; done) | (simp; omega) | (simp at *; omega))))))
  have x : RowAt W (kx) 26 [.int .i64 b, .string SX] := by rw [hW]; exact (by repeat (first | assumption | exact RowAt.new_at _ _ _ _ (by (first | omega | (simp; done) | (simp; omega) | (simp at *; omega))) | (refine RowAt.alloc ?_ _) | (refine RowAt.gr ?_ _) | (refine RowAt.setOther ?_ _ _ (by (first | omega | (simp; done) | (simp; omega) | (simp at *; omega)))) | (refine RowAt.drew ?_)))
  have y : RowAt W (g.world.heap.size) 26 [.int .i64 b, .string SY] := by rw [hW]; exact (by repeat (first | assumption | exact RowAt.new_at _ _ _ _ (by (first | omega | (simp; done) | (simp; omega) | (simp at *; omega))) | (refine RowAt.alloc ?_ _) | (refine RowAt.gr ?_ _) | (refine RowAt.setOther ?_ _ _ (by (first | omega | (simp; done) | (simp; omega) | (simp at *; omega)))) | (refine RowAt.drew ?_)))
  clear hW
  obtain ⟨xc0, xc1, xf0, xf1, xl⟩ := x.two
  obtain ⟨yc0, yc1, yf0, yf1, yl⟩ := y.two
  generalize g.world.heap.size = ky at *
  clear g
  with_reducible refine Calls.mono (Calls.gr0 (cN _)) ?_
  rintro e w' ⟨rfl, g, rfl⟩
  have hgl := g.le
  try simp only [World.size_alloc] at hgl
  try simp only [World.size_setCell] at hgl
  go_wp2_with fail
  refine wp_named (fun W hW => ?_)
  have hBW : Below w.heap.size w W := by rw [hW]; exact (by repeat (first | exact Below.refl _ _ | assumption | (refine Below.setCell ?_ (by (first | omega | (simp; done) | (simp; omega) | (simp at *; omega))) _) | (refine Below.alloc ?_ (by (first | omega | (simp; done) | (simp; omega) | (simp at *; omega))) _) | (refine Below.drew ?_) | (refine Gr.into _ ?_ (by (first | omega | (simp; done) | (simp; omega) | (simp at *; omega))))))
  have x : RowAt W (kx) 26 [.int .i64 b, .string SX] := by rw [hW]; exact (by repeat (first | assumption | exact RowAt.new_at _ _ _ _ (by (first | omega | (simp; done) | (simp; omega) | (simp at *; omega))) | (refine RowAt.alloc ?_ _) | (refine RowAt.gr ?_ _) | (refine RowAt.setOther ?_ _ _ (by (first | omega | (simp; done) | (simp; omega) | (simp at *; omega)))) | (refine RowAt.drew ?_)))
  have y : RowAt W (ky) 26 [.int .i64 b, .string SY] := by rw [hW]; exact (by repeat (first | assumption | exact RowAt.new_at _ _ _ _ (by (first | omega | (simp; done) | (simp; omega) | (simp at *; omega))) | (refine RowAt.alloc ?_ _) | (refine RowAt.gr ?_ _) | (refine RowAt.setOther ?_ _ _ (by (first | omega | (simp; done) | (simp; omega) | (simp at *; omega)))) | (refine RowAt.drew ?_)))
  have z : RowAt W (g.world.heap.size) 26 [.int .i64 b, .string SN] := by rw [hW]; exact (by repeat (first | assumption | exact RowAt.new_at _ _ _ _ (by (first | omega | (simp; done) | (simp; omega) | (simp at *; omega))) | (refine RowAt.alloc ?_ _) | (refine RowAt.gr ?_ _) | (refine RowAt.setOther ?_ _ _ (by (first | omega | (simp; done) | (simp; omega) | (simp at *; omega)))) | (refine RowAt.drew ?_)))
  clear hW
  obtain ⟨xc0, xc1, xf0, xf1, xl⟩ := x.two
  obtain ⟨yc0, yc1, yf0, yf1, yl⟩ := y.two
  obtain ⟨zc0, zc1, zf0, zf1, zl⟩ := z.two
  generalize g.world.heap.size = kz at *
  clear g
  refine wp_region_gr (by kernel_rfl) (by kernel_rfl) ?_
  repeat (go_big_quiet_step (first | (go_at_call 10; with_reducible exact Calls.gr (tX _)) | (go_at_call 10; with_reducible exact Calls.gr (tY _)) | (go_at_call 10; with_reducible exact Calls.gr (tN _)) | (go_at_call 11; with_reducible exact Calls.gr (rY _))))
  refine wpQuiet_nil ?_
  intro g5
  go_wp2
  go_ret
  exact ⟨by first | (simp; done) | (simp; omega), (by repeat (first | exact Below.refl _ _ | assumption | (refine Below.setCell ?_ (by (first | omega | (simp; done) | (simp; omega) | (simp at *; omega))) _) | (refine Below.alloc ?_ (by (first | omega | (simp; done) | (simp; omega) | (simp at *; omega))) _) | (refine Below.drew ?_) | (refine Gr.into _ ?_ (by (first | omega | (simp; done) | (simp; omega) | (simp at *; omega))))))⟩
theorem grows_all (b : Int) (v : Value) (zs : List Nat) (n : Nat) (w : World) (hz : U64s w.heap.size w v zs) (hn : n < 2 ^ 64) :
    Calls Tryd.prog 3 #[.int .i64 b, v, .int .u64 n] w fun e w' => e = .returned (.bool true) ∧ Below w.heap.size w w' := by
  cases h : isBitsB b
  · exact grows_no b v zs n w h hz
  · obtain ⟨h1, h2⟩ := isBits_bd h
    obtain ⟨m, rfl⟩ := Int.eq_ofNat_of_zero_le (a := b) (by omega)
    exact grows_yes m v zs n w h hz hn
end Go.Proofs.YtngahohheleeeaaDoor
