/- The walk of the law HllLowers. -/
import Derived.Test.YtngahohheleeeaaL3
namespace Go.Proofs.Ytngahohheleeeaa
open Go.RowKit

theorem lowers_no (b : Int) (v v2 : Value) (w : World) (h : b < 4 ∨ 8 < b) :
    Calls Try.prog 6 #[.int .i64 b, v, v2] w fun e w' => e = .returned (.bool true) ∧ Below w.heap.size w w' := by
  go_enter Try.func6, Try.ntmps6
  rcases Classical.em (b < 4) with h4 | h4
  all_goals
    have h8 : 4 ≤ b → 8 < b := by omega
    go_wp2_with (first
      | (go_at_call 8; (first | (with_reducible refine Calls.mono (Calls.gr (shown_any _)) ?_) | (refine Calls.mono (Calls.gr0 (shown_any _)) ?_)); rintro e w' ⟨rfl, g, rfl⟩; have hgl := g.le; (try simp only [World.size_alloc] at hgl); (try simp only [World.size_setCell] at hgl)))
    all_goals (go_ret; exact ⟨rfl, (by repeat (first | exact Below.refl _ _ | assumption | (refine Below.setCell ?_ (by (first | omega | (simp; done) | (simp; omega) | (simp at *; omega))) _) | (refine Below.alloc ?_ (by (first | omega | (simp; done) | (simp; omega) | (simp at *; omega))) _) | (refine Below.drew ?_) | (refine Gr.into _ ?_ (by (first | omega | (simp; done) | (simp; omega) | (simp at *; omega))))))⟩)

set_option maxRecDepth 100000 in
set_option maxHeartbeats 1000000 in
theorem lowers_yes (b : Nat) (v v2 : Value) (zs ys : List Nat) (w : World) (h4 : 4 ≤ b) (h8 : b ≤ 8) (hz : U64s w.heap.size w v zs) (hy : U64s w.heap.size w v2 ys) :
    Calls Try.prog 6 #[.int .i64 b, v, v2] w fun e w' => e = .returned (.bool true) ∧ Below w.heap.size w w' := by
  have hb : isBitsB b = true := by simp [isBitsB]; omega
  have hc : isBitsB (b - 1 : Nat) = true := by simp [isBitsB]; omega
  have he : (b : Int) - 1 = (b - 1 : Nat) := by omega
  obtain ⟨xs, hxs⟩ : ∃ l, l = zs.take 100 := ⟨_, rfl⟩
  obtain ⟨us, hus⟩ : ∃ l, l = ys.take 100 := ⟨_, rfl⟩
  obtain ⟨SX, hSX⟩ : ∃ S : ByteArray, S = ⟨(regsOf b xs).toArray⟩ := ⟨_, rfl⟩
  obtain ⟨SY, hSY⟩ : ∃ S : ByteArray, S = ⟨(regsOf b us).toArray⟩ := ⟨_, rfl⟩
  obtain ⟨SA, hSA⟩ : ∃ S : ByteArray, S = ⟨(regsOf (b - 1) xs).toArray⟩ := ⟨_, rfl⟩
  obtain ⟨SC, hSC⟩ : ∃ S : ByteArray, S = ⟨(regsOf (b - 1) us).toArray⟩ := ⟨_, rfl⟩
  obtain ⟨SD, hSD⟩ : ∃ S : ByteArray, S = ⟨(regsOf b (xs ++ us)).toArray⟩ := ⟨_, rfl⟩
  obtain ⟨SK, hSK⟩ : ∃ S : ByteArray, S = ⟨(regsOf (b - 1) (xs ++ us)).toArray⟩ := ⟨_, rfl⟩
  have cX : ∀ u W, U64s W.heap.size W u (zs.take 100) → Calls Try.prog 10 #[.int .i64 b, u] W fun e w' => e = hllRes b SX 0 ∧ Below W.heap.size W w' := fun u W hu => by
    rw [hSX, hxs]; exact of_calls hb hu
  have cY : ∀ u W, U64s W.heap.size W u (ys.take 100) → Calls Try.prog 10 #[.int .i64 b, u] W fun e w' => e = hllRes b SY 0 ∧ Below W.heap.size W w' := fun u W hu => by
    rw [hSY, hus]; exact of_calls hb hu
  have cB : ∀ u W, U64s W.heap.size W u (zs.take 100) → Calls Try.prog 10 #[.int .i64 (b - 1), u] W fun e w' => e = hllRes (b - 1) SA 0 ∧ Below W.heap.size W w' := fun u W hu => by
    rw [hSA, hxs, he]; exact of_calls hc hu
  have low : ∀ (l : List Nat) W, Calls Try.prog 22 #[.agg #[.int .i64 b, .string ⟨(regsOf b l).toArray⟩]] W fun e w' => e = hllRes (b - 1) ⟨(regsOf (b - 1) l).toArray⟩ 0 ∧ Below W.heap.size W w' := fun l W => by
    have := lower_yes b ⟨(regsOf b l).toArray⟩ W (regsOf_right hb l) h4
    rw [show lowerL (⟨(regsOf b l).toArray⟩ : ByteArray).data.toList = regsOf (b - 1) l from lower_regsOf h4 h8 l] at this
    rw [he]; exact this
  have lX : ∀ W, Calls Try.prog 22 #[.agg #[.int .i64 b, .string SX]] W fun e w' => e = hllRes (b - 1) SA 0 ∧ Below W.heap.size W w' := by rw [hSX, hSA]; exact low xs
  have lY : ∀ W, Calls Try.prog 22 #[.agg #[.int .i64 b, .string SY]] W fun e w' => e = hllRes (b - 1) SC 0 ∧ Below W.heap.size W w' := by rw [hSY, hSC]; exact low us
  have lD : ∀ W, Calls Try.prog 22 #[.agg #[.int .i64 b, .string SD]] W fun e w' => e = hllRes (b - 1) SK 0 ∧ Below W.heap.size W w' := by rw [hSD, hSK]; exact low (xs ++ us)
  have mD : ∀ W, Calls Try.prog 21 #[.agg #[.int .i64 b, .string SX], .agg #[.int .i64 b, .string SY]] W fun e w' => e = hllRes b SD 0 ∧ Below W.heap.size W w' := by rw [hSX, hSY, hSD]; exact merge_calls hb xs us
  have mP : ∀ W, Calls Try.prog 21 #[.agg #[.int .i64 (b - 1), .string SA], .agg #[.int .i64 (b - 1), .string SC]] W fun e w' => e = hllRes (b - 1) SK 0 ∧ Below W.heap.size W w' := by rw [hSA, hSC, hSK, he]; exact merge_calls hc xs us
  clear low hSX hSY hSA hSC hSD hSK hxs hus he hb hc
  have h4' : (4 : Int) ≤ b := by omega
  have h8' : (b : Int) ≤ 8 := by omega
  go_enter Try.func6, Try.ntmps6
  go_wp2_with (first
    | (go_at_call 8; (first | (with_reducible refine Calls.mono (Calls.gr (shown_any _)) ?_) | (refine Calls.mono (Calls.gr0 (shown_any _)) ?_)); rintro e w' ⟨rfl, g, rfl⟩; have hgl := g.le; (try simp only [World.size_alloc] at hgl); (try simp only [World.size_setCell] at hgl)))
  refine Calls.mono (few_any _ _ _ _ (hz.at_ g.below)) ?_
  rintro e w' ⟨⟨u, rfl, hu⟩, rfl⟩
  go_wp2_with fail
  with_reducible refine Calls.mono (Calls.gr (cX _ _ hu)) ?_
  rintro e w' ⟨rfl, g, rfl⟩
  have hgl := g.le
  go_wp2_with fail
  refine Calls.named (fun W hW => ?_)
  have hBW : Below w.heap.size w W := by rw [hW]; exact (by repeat (first | exact Below.refl _ _ | assumption | (refine Below.setCell ?_ (by (first | omega | (simp; done) | (simp; omega) | (simp at *; omega))) _) | (refine Below.alloc ?_ (by (first | omega | (simp; done) | (simp; omega) | (simp at *; omega))) _) | (refine Below.drew ?_) | (refine Gr.into _ ?_ (by (first | omega | (simp; done) | (simp; omega) | (simp at *; omega))))))
  have x : RowAt W (g.world.heap.size) 23 [.int .i64 b, .string SX] := by rw [hW]; exact (by repeat (first | assumption | exact RowAt.new_at _ _ _ _ (by (first | omega | (simp; done) | (simp; omega) | (simp at *; omega))) | (refine RowAt.alloc ?_ _) | (refine RowAt.gr ?_ _) | (refine RowAt.setOther ?_ _ _ (by (first | omega | (simp; done) | (simp; omega) | (simp at *; omega)))) | (refine RowAt.drew ?_)))
  clear hW
  obtain ⟨xc0, xc1, xf0, xf1, xl⟩ := x.two
  generalize g.world.heap.size = kx at *
  clear g
  refine Calls.mono (few_any _ _ _ _ (hy.at_ hBW)) ?_
  rintro e w' ⟨⟨u, rfl, hu⟩, rfl⟩
  go_wp2_with fail
  with_reducible refine Calls.mono (Calls.gr0 (cY _ _ hu)) ?_
  rintro e w' ⟨rfl, g, rfl⟩
  have hgl := g.le
  go_wp2_with fail
  refine Calls.named (fun W hW => ?_)
  have hBW : Below w.heap.size w W := by rw [hW]; exact (by repeat (first | exact Below.refl _ _ | assumption | (refine Below.setCell ?_ (by (first | omega | (simp; done) | (simp; omega) | (simp at *; omega))) _) | (refine Below.alloc ?_ (by (first | omega | (simp; done) | (simp; omega) | (simp at *; omega))) _) | (refine Below.drew ?_) | (refine Gr.into _ ?_ (by (first | omega | (simp; done) | (simp; omega) | (simp at *; omega))))))
  have x : RowAt W (kx) 23 [.int .i64 b, .string SX] := by rw [hW]; exact (by repeat (first | assumption | exact RowAt.new_at _ _ _ _ (by (first | omega | (simp; done) | (simp; omega) | (simp at *; omega))) | (refine RowAt.alloc ?_ _) | (refine RowAt.gr ?_ _) | (refine RowAt.setOther ?_ _ _ (by (first | omega | (simp; done) | (simp; omega) | (simp at *; omega)))) | (refine RowAt.drew ?_)))
  have y : RowAt W (g.world.heap.size) 23 [.int .i64 b, .string SY] := by rw [hW]; exact (by repeat (first | assumption | exact RowAt.new_at _ _ _ _ (by (first | omega | (simp; done) | (simp; omega) | (simp at *; omega))) | (refine RowAt.alloc ?_ _) | (refine RowAt.gr ?_ _) | (refine RowAt.setOther ?_ _ _ (by (first | omega | (simp; done) | (simp; omega) | (simp at *; omega)))) | (refine RowAt.drew ?_)))
  clear hW
  obtain ⟨xc0, xc1, xf0, xf1, xl⟩ := x.two
  obtain ⟨yc0, yc1, yf0, yf1, yl⟩ := y.two
  generalize g.world.heap.size = ky at *
  clear g
  with_reducible refine Calls.mono (Calls.gr0 (lX _)) ?_
  rintro e w' ⟨rfl, g, rfl⟩
  have hgl := g.le
  go_wp2_with fail
  refine Calls.named (fun W hW => ?_)
  have hBW : Below w.heap.size w W := by rw [hW]; exact (by repeat (first | exact Below.refl _ _ | assumption | (refine Below.setCell ?_ (by (first | omega | (simp; done) | (simp; omega) | (simp at *; omega))) _) | (refine Below.alloc ?_ (by (first | omega | (simp; done) | (simp; omega) | (simp at *; omega))) _) | (refine Below.drew ?_) | (refine Gr.into _ ?_ (by (first | omega | (simp; done) | (simp; omega) | (simp at *; omega))))))
  have x : RowAt W (kx) 23 [.int .i64 b, .string SX] := by rw [hW]; exact (by repeat (first | assumption | exact RowAt.new_at _ _ _ _ (by (first | omega | (simp; done) | (simp; omega) | (simp at *; omega))) | (refine RowAt.alloc ?_ _) | (refine RowAt.gr ?_ _) | (refine RowAt.setOther ?_ _ _ (by (first | omega | (simp; done) | (simp; omega) | (simp at *; omega)))) | (refine RowAt.drew ?_)))
  have y : RowAt W (ky) 23 [.int .i64 b, .string SY] := by rw [hW]; exact (by repeat (first | assumption | exact RowAt.new_at _ _ _ _ (by (first | omega | (simp; done) | (simp; omega) | (simp at *; omega))) | (refine RowAt.alloc ?_ _) | (refine RowAt.gr ?_ _) | (refine RowAt.setOther ?_ _ _ (by (first | omega | (simp; done) | (simp; omega) | (simp at *; omega)))) | (refine RowAt.drew ?_)))
  have a : RowAt W (g.world.heap.size) 23 [.int .i64 (b - 1), .string SA] := by rw [hW]; exact (by repeat (first | assumption | exact RowAt.new_at _ _ _ _ (by (first | omega | (simp; done) | (simp; omega) | (simp at *; omega))) | (refine RowAt.alloc ?_ _) | (refine RowAt.gr ?_ _) | (refine RowAt.setOther ?_ _ _ (by (first | omega | (simp; done) | (simp; omega) | (simp at *; omega)))) | (refine RowAt.drew ?_)))
  clear hW
  obtain ⟨xc0, xc1, xf0, xf1, xl⟩ := x.two
  obtain ⟨yc0, yc1, yf0, yf1, yl⟩ := y.two
  obtain ⟨ac0, ac1, af0, af1, al⟩ := a.two
  generalize g.world.heap.size = ka at *
  clear g
  refine Calls.mono (few_any _ _ _ _ (hz.at_ hBW)) ?_
  rintro e w' ⟨⟨u, rfl, hu⟩, rfl⟩
  go_wp2_with fail
  with_reducible refine Calls.mono (Calls.gr0 (cB _ _ hu)) ?_
  rintro e w' ⟨rfl, g, rfl⟩
  have hgl := g.le
  go_wp2_with fail
  refine Calls.named (fun W hW => ?_)
  have hBW : Below w.heap.size w W := by rw [hW]; exact (by repeat (first | exact Below.refl _ _ | assumption | (refine Below.setCell ?_ (by (first | omega | (simp; done) | (simp; omega) | (simp at *; omega))) _) | (refine Below.alloc ?_ (by (first | omega | (simp; done) | (simp; omega) | (simp at *; omega))) _) | (refine Below.drew ?_) | (refine Gr.into _ ?_ (by (first | omega | (simp; done) | (simp; omega) | (simp at *; omega))))))
  have x : RowAt W (kx) 23 [.int .i64 b, .string SX] := by rw [hW]; exact (by repeat (first | assumption | exact RowAt.new_at _ _ _ _ (by (first | omega | (simp; done) | (simp; omega) | (simp at *; omega))) | (refine RowAt.alloc ?_ _) | (refine RowAt.gr ?_ _) | (refine RowAt.setOther ?_ _ _ (by (first | omega | (simp; done) | (simp; omega) | (simp at *; omega)))) | (refine RowAt.drew ?_)))
  have y : RowAt W (ky) 23 [.int .i64 b, .string SY] := by rw [hW]; exact (by repeat (first | assumption | exact RowAt.new_at _ _ _ _ (by (first | omega | (simp; done) | (simp; omega) | (simp at *; omega))) | (refine RowAt.alloc ?_ _) | (refine RowAt.gr ?_ _) | (refine RowAt.setOther ?_ _ _ (by (first | omega | (simp; done) | (simp; omega) | (simp at *; omega)))) | (refine RowAt.drew ?_)))
  have a : RowAt W (ka) 23 [.int .i64 (b - 1), .string SA] := by rw [hW]; exact (by repeat (first | assumption | exact RowAt.new_at _ _ _ _ (by (first | omega | (simp; done) | (simp; omega) | (simp at *; omega))) | (refine RowAt.alloc ?_ _) | (refine RowAt.gr ?_ _) | (refine RowAt.setOther ?_ _ _ (by (first | omega | (simp; done) | (simp; omega) | (simp at *; omega)))) | (refine RowAt.drew ?_)))
  have b2 : RowAt W (g.world.heap.size) 23 [.int .i64 (b - 1), .string SA] := by rw [hW]; exact (by repeat (first | assumption | exact RowAt.new_at _ _ _ _ (by (first | omega | (simp; done) | (simp; omega) | (simp at *; omega))) | (refine RowAt.alloc ?_ _) | (refine RowAt.gr ?_ _) | (refine RowAt.setOther ?_ _ _ (by (first | omega | (simp; done) | (simp; omega) | (simp at *; omega)))) | (refine RowAt.drew ?_)))
  clear hW
  obtain ⟨xc0, xc1, xf0, xf1, xl⟩ := x.two
  obtain ⟨yc0, yc1, yf0, yf1, yl⟩ := y.two
  obtain ⟨ac0, ac1, af0, af1, al⟩ := a.two
  obtain ⟨b2c0, b2c1, b2f0, b2f1, b2l⟩ := b2.two
  generalize g.world.heap.size = kb2 at *
  clear g
  with_reducible refine Calls.mono (Calls.gr0 (lY _)) ?_
  rintro e w' ⟨rfl, g, rfl⟩
  have hgl := g.le
  go_wp2_with fail
  refine Calls.named (fun W hW => ?_)
  have hBW : Below w.heap.size w W := by rw [hW]; exact (by repeat (first | exact Below.refl _ _ | assumption | (refine Below.setCell ?_ (by (first | omega | (simp; done) | (simp; omega) | (simp at *; omega))) _) | (refine Below.alloc ?_ (by (first | omega | (simp; done) | (simp; omega) | (simp at *; omega))) _) | (refine Below.drew ?_) | (refine Gr.into _ ?_ (by (first | omega | (simp; done) | (simp; omega) | (simp at *; omega))))))
  have x : RowAt W (kx) 23 [.int .i64 b, .string SX] := by rw [hW]; exact (by repeat (first | assumption | exact RowAt.new_at _ _ _ _ (by (first | omega | (simp; done) | (simp; omega) | (simp at *; omega))) | (refine RowAt.alloc ?_ _) | (refine RowAt.gr ?_ _) | (refine RowAt.setOther ?_ _ _ (by (first | omega | (simp; done) | (simp; omega) | (simp at *; omega)))) | (refine RowAt.drew ?_)))
  have y : RowAt W (ky) 23 [.int .i64 b, .string SY] := by rw [hW]; exact (by repeat (first | assumption | exact RowAt.new_at _ _ _ _ (by (first | omega | (simp; done) | (simp; omega) | (simp at *; omega))) | (refine RowAt.alloc ?_ _) | (refine RowAt.gr ?_ _) | (refine RowAt.setOther ?_ _ _ (by (first | omega | (simp; done) | (simp; omega) | (simp at *; omega)))) | (refine RowAt.drew ?_)))
  have a : RowAt W (ka) 23 [.int .i64 (b - 1), .string SA] := by rw [hW]; exact (by repeat (first | assumption | exact RowAt.new_at _ _ _ _ (by (first | omega | (simp; done) | (simp; omega) | (simp at *; omega))) | (refine RowAt.alloc ?_ _) | (refine RowAt.gr ?_ _) | (refine RowAt.setOther ?_ _ _ (by (first | omega | (simp; done) | (simp; omega) | (simp at *; omega)))) | (refine RowAt.drew ?_)))
  have b2 : RowAt W (kb2) 23 [.int .i64 (b - 1), .string SA] := by rw [hW]; exact (by repeat (first | assumption | exact RowAt.new_at _ _ _ _ (by (first | omega | (simp; done) | (simp; omega) | (simp at *; omega))) | (refine RowAt.alloc ?_ _) | (refine RowAt.gr ?_ _) | (refine RowAt.setOther ?_ _ _ (by (first | omega | (simp; done) | (simp; omega) | (simp at *; omega)))) | (refine RowAt.drew ?_)))
  have c : RowAt W (g.world.heap.size) 23 [.int .i64 (b - 1), .string SC] := by rw [hW]; exact (by repeat (first | assumption | exact RowAt.new_at _ _ _ _ (by (first | omega | (simp; done) | (simp; omega) | (simp at *; omega))) | (refine RowAt.alloc ?_ _) | (refine RowAt.gr ?_ _) | (refine RowAt.setOther ?_ _ _ (by (first | omega | (simp; done) | (simp; omega) | (simp at *; omega)))) | (refine RowAt.drew ?_)))
  clear hW
  obtain ⟨xc0, xc1, xf0, xf1, xl⟩ := x.two
  obtain ⟨yc0, yc1, yf0, yf1, yl⟩ := y.two
  obtain ⟨ac0, ac1, af0, af1, al⟩ := a.two
  obtain ⟨b2c0, b2c1, b2f0, b2f1, b2l⟩ := b2.two
  obtain ⟨cc0, cc1, cf0, cf1, cl⟩ := c.two
  generalize g.world.heap.size = kc at *
  clear g
  with_reducible refine Calls.mono (Calls.gr0 (mD _)) ?_
  rintro e w' ⟨rfl, g, rfl⟩
  have hgl := g.le
  go_wp2_with fail
  refine Calls.named (fun W hW => ?_)
  have hBW : Below w.heap.size w W := by rw [hW]; exact (by repeat (first | exact Below.refl _ _ | assumption | (refine Below.setCell ?_ (by (first | omega | (simp; done) | (simp; omega) | (simp at *; omega))) _) | (refine Below.alloc ?_ (by (first | omega | (simp; done) | (simp; omega) | (simp at *; omega))) _) | (refine Below.drew ?_) | (refine Gr.into _ ?_ (by (first | omega | (simp; done) | (simp; omega) | (simp at *; omega))))))
  have x : RowAt W (kx) 23 [.int .i64 b, .string SX] := by rw [hW]; exact (by repeat (first | assumption | exact RowAt.new_at _ _ _ _ (by (first | omega | (simp; done) | (simp; omega) | (simp at *; omega))) | (refine RowAt.alloc ?_ _) | (refine RowAt.gr ?_ _) | (refine RowAt.setOther ?_ _ _ (by (first | omega | (simp; done) | (simp; omega) | (simp at *; omega)))) | (refine RowAt.drew ?_)))
  have y : RowAt W (ky) 23 [.int .i64 b, .string SY] := by rw [hW]; exact (by repeat (first | assumption | exact RowAt.new_at _ _ _ _ (by (first | omega | (simp; done) | (simp; omega) | (simp at *; omega))) | (refine RowAt.alloc ?_ _) | (refine RowAt.gr ?_ _) | (refine RowAt.setOther ?_ _ _ (by (first | omega | (simp; done) | (simp; omega) | (simp at *; omega)))) | (refine RowAt.drew ?_)))
  have a : RowAt W (ka) 23 [.int .i64 (b - 1), .string SA] := by rw [hW]; exact (by repeat (first | assumption | exact RowAt.new_at _ _ _ _ (by (first | omega | (simp; done) | (simp; omega) | (simp at *; omega))) | (refine RowAt.alloc ?_ _) | (refine RowAt.gr ?_ _) | (refine RowAt.setOther ?_ _ _ (by (first | omega | (simp; done) | (simp; omega) | (simp at *; omega)))) | (refine RowAt.drew ?_)))
  have b2 : RowAt W (kb2) 23 [.int .i64 (b - 1), .string SA] := by rw [hW]; exact (by repeat (first | assumption | exact RowAt.new_at _ _ _ _ (by (first | omega | (simp; done) | (simp; omega) | (simp at *; omega))) | (refine RowAt.alloc ?_ _) | (refine RowAt.gr ?_ _) | (refine RowAt.setOther ?_ _ _ (by (first | omega | (simp; done) | (simp; omega) | (simp at *; omega)))) | (refine RowAt.drew ?_)))
  have c : RowAt W (kc) 23 [.int .i64 (b - 1), .string SC] := by rw [hW]; exact (by repeat (first | assumption | exact RowAt.new_at _ _ _ _ (by (first | omega | (simp; done) | (simp; omega) | (simp at *; omega))) | (refine RowAt.alloc ?_ _) | (refine RowAt.gr ?_ _) | (refine RowAt.setOther ?_ _ _ (by (first | omega | (simp; done) | (simp; omega) | (simp at *; omega)))) | (refine RowAt.drew ?_)))
  have d : RowAt W (g.world.heap.size) 23 [.int .i64 b, .string SD] := by rw [hW]; exact (by repeat (first | assumption | exact RowAt.new_at _ _ _ _ (by (first | omega | (simp; done) | (simp; omega) | (simp at *; omega))) | (refine RowAt.alloc ?_ _) | (refine RowAt.gr ?_ _) | (refine RowAt.setOther ?_ _ _ (by (first | omega | (simp; done) | (simp; omega) | (simp at *; omega)))) | (refine RowAt.drew ?_)))
  clear hW
  obtain ⟨xc0, xc1, xf0, xf1, xl⟩ := x.two
  obtain ⟨yc0, yc1, yf0, yf1, yl⟩ := y.two
  obtain ⟨ac0, ac1, af0, af1, al⟩ := a.two
  obtain ⟨b2c0, b2c1, b2f0, b2f1, b2l⟩ := b2.two
  obtain ⟨cc0, cc1, cf0, cf1, cl⟩ := c.two
  obtain ⟨dc0, dc1, df0, df1, dl⟩ := d.two
  generalize g.world.heap.size = kd at *
  clear g
  with_reducible refine Calls.mono (Calls.gr0 (lD _)) ?_
  rintro e w' ⟨rfl, g, rfl⟩
  have hgl := g.le
  go_wp2_with fail
  refine Calls.named (fun W hW => ?_)
  have hBW : Below w.heap.size w W := by rw [hW]; exact (by repeat (first | exact Below.refl _ _ | assumption | (refine Below.setCell ?_ (by (first | omega | (simp; done) | (simp; omega) | (simp at *; omega))) _) | (refine Below.alloc ?_ (by (first | omega | (simp; done) | (simp; omega) | (simp at *; omega))) _) | (refine Below.drew ?_) | (refine Gr.into _ ?_ (by (first | omega | (simp; done) | (simp; omega) | (simp at *; omega))))))
  have x : RowAt W (kx) 23 [.int .i64 b, .string SX] := by rw [hW]; exact (by repeat (first | assumption | exact RowAt.new_at _ _ _ _ (by (first | omega | (simp; done) | (simp; omega) | (simp at *; omega))) | (refine RowAt.alloc ?_ _) | (refine RowAt.gr ?_ _) | (refine RowAt.setOther ?_ _ _ (by (first | omega | (simp; done) | (simp; omega) | (simp at *; omega)))) | (refine RowAt.drew ?_)))
  have y : RowAt W (ky) 23 [.int .i64 b, .string SY] := by rw [hW]; exact (by repeat (first | assumption | exact RowAt.new_at _ _ _ _ (by (first | omega | (simp; done) | (simp; omega) | (simp at *; omega))) | (refine RowAt.alloc ?_ _) | (refine RowAt.gr ?_ _) | (refine RowAt.setOther ?_ _ _ (by (first | omega | (simp; done) | (simp; omega) | (simp at *; omega)))) | (refine RowAt.drew ?_)))
  have a : RowAt W (ka) 23 [.int .i64 (b - 1), .string SA] := by rw [hW]; exact (by repeat (first | assumption | exact RowAt.new_at _ _ _ _ (by (first | omega | (simp; done) | (simp; omega) | (simp at *; omega))) | (refine RowAt.alloc ?_ _) | (refine RowAt.gr ?_ _) | (refine RowAt.setOther ?_ _ _ (by (first | omega | (simp; done) | (simp; omega) | (simp at *; omega)))) | (refine RowAt.drew ?_)))
  have b2 : RowAt W (kb2) 23 [.int .i64 (b - 1), .string SA] := by rw [hW]; exact (by repeat (first | assumption | exact RowAt.new_at _ _ _ _ (by (first | omega | (simp; done) | (simp; omega) | (simp at *; omega))) | (refine RowAt.alloc ?_ _) | (refine RowAt.gr ?_ _) | (refine RowAt.setOther ?_ _ _ (by (first | omega | (simp; done) | (simp; omega) | (simp at *; omega)))) | (refine RowAt.drew ?_)))
  have c : RowAt W (kc) 23 [.int .i64 (b - 1), .string SC] := by rw [hW]; exact (by repeat (first | assumption | exact RowAt.new_at _ _ _ _ (by (first | omega | (simp; done) | (simp; omega) | (simp at *; omega))) | (refine RowAt.alloc ?_ _) | (refine RowAt.gr ?_ _) | (refine RowAt.setOther ?_ _ _ (by (first | omega | (simp; done) | (simp; omega) | (simp at *; omega)))) | (refine RowAt.drew ?_)))
  have d : RowAt W (kd) 23 [.int .i64 b, .string SD] := by rw [hW]; exact (by repeat (first | assumption | exact RowAt.new_at _ _ _ _ (by (first | omega | (simp; done) | (simp; omega) | (simp at *; omega))) | (refine RowAt.alloc ?_ _) | (refine RowAt.gr ?_ _) | (refine RowAt.setOther ?_ _ _ (by (first | omega | (simp; done) | (simp; omega) | (simp at *; omega)))) | (refine RowAt.drew ?_)))
  have k : RowAt W (g.world.heap.size) 23 [.int .i64 (b - 1), .string SK] := by rw [hW]; exact (by repeat (first | assumption | exact RowAt.new_at _ _ _ _ (by (first | omega | (simp; done) | (simp; omega) | (simp at *; omega))) | (refine RowAt.alloc ?_ _) | (refine RowAt.gr ?_ _) | (refine RowAt.setOther ?_ _ _ (by (first | omega | (simp; done) | (simp; omega) | (simp at *; omega)))) | (refine RowAt.drew ?_)))
  clear hW
  obtain ⟨xc0, xc1, xf0, xf1, xl⟩ := x.two
  obtain ⟨yc0, yc1, yf0, yf1, yl⟩ := y.two
  obtain ⟨ac0, ac1, af0, af1, al⟩ := a.two
  obtain ⟨b2c0, b2c1, b2f0, b2f1, b2l⟩ := b2.two
  obtain ⟨cc0, cc1, cf0, cf1, cl⟩ := c.two
  obtain ⟨dc0, dc1, df0, df1, dl⟩ := d.two
  obtain ⟨kc0, kc1, kf0, kf1, kl⟩ := k.two
  generalize g.world.heap.size = kk at *
  clear g
  with_reducible refine Calls.mono (Calls.gr0 (mP _)) ?_
  rintro e w' ⟨rfl, g, rfl⟩
  have hgl := g.le
  go_wp2_with fail
  go_ret
  exact ⟨rfl, (by repeat (first | exact Below.refl _ _ | assumption | (refine Below.setCell ?_ (by (first | omega | (simp; done) | (simp; omega) | (simp at *; omega))) _) | (refine Below.alloc ?_ (by (first | omega | (simp; done) | (simp; omega) | (simp at *; omega))) _) | (refine Below.drew ?_) | (refine Gr.into _ ?_ (by (first | omega | (simp; done) | (simp; omega) | (simp at *; omega))))))⟩

theorem lowers_all (b : Int) (v v2 : Value) (zs ys : List Nat) (w : World) (hz : U64s w.heap.size w v zs) (hy : U64s w.heap.size w v2 ys) :
    Calls Try.prog 6 #[.int .i64 b, v, v2] w fun e w' => e = .returned (.bool true) ∧ Below w.heap.size w w' := by
  by_cases h : b < 4 ∨ 8 < b
  · exact lowers_no b v v2 w h
  · obtain ⟨n, rfl⟩ := Int.eq_ofNat_of_zero_le (a := b) (by omega)
    exact lowers_yes n v v2 zs ys w (by omega) (by omega) hz hy
end Go.Proofs.Ytngahohheleeeaa
