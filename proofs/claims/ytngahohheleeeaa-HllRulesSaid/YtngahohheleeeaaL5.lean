/- The walk of the law HllRules. -/
import Derived.Test.YtngahohheleeeaaL4
namespace Go.Proofs.Ytngahohheleeeaa
open Go.RowKit

set_option maxRecDepth 100000 in
set_option maxHeartbeats 1000000 in
theorem rules_no (b : Int) (v v2 v3 : Value) (zs ys us : List Nat) (w : World) (h : isBitsB b = false) (hz : U64s w.heap.size w v zs) (hy : U64s w.heap.size w v2 ys) (hu0 : U64s w.heap.size w v3 us) :
    Calls Try.prog 7 #[.int .i64 b, v, v2, v3] w fun e w' => e = .returned (.bool true) ∧ Below w.heap.size w w' := by
  have hb : b < 3 ∨ 8 < b := by simp [isBitsB] at h; omega
  go_enter Try.func7, Try.ntmps7
  go_wp2_with (first
    | (go_at_call 8; (first | (with_reducible refine Calls.mono (Calls.gr (shown_any _)) ?_) | (refine Calls.mono (Calls.gr0 (shown_any _)) ?_)); rintro e w' ⟨rfl, g, rfl⟩; have hgl := g.le; (try simp only [World.size_alloc] at hgl); (try simp only [World.size_setCell] at hgl)))
  refine Calls.mono (few_any _ _ _ _ (hz.at_ g.below)) ?_
  rintro e w' ⟨⟨u, rfl, hu⟩, rfl⟩
  go_wp2_with fail
  with_reducible refine Calls.mono (Calls.gr (of_no _ _ _ h)) ?_
  rintro e w' ⟨rfl, g, rfl⟩
  have hgl := g.le
  go_wp2_with fail
  refine Calls.named (fun W hW => ?_)
  have hBW : Below w.heap.size w W := by rw [hW]; exact (by repeat (first | exact Below.refl _ _ | assumption | (refine Below.setCell ?_ (by (first | omega | (simp; done) | (simp; omega) | (simp at *; omega))) _) | (refine Below.alloc ?_ (by (first | omega | (simp; done) | (simp; omega) | (simp at *; omega))) _) | (refine Below.drew ?_) | (refine Gr.into _ ?_ (by (first | omega | (simp; done) | (simp; omega) | (simp at *; omega))))))
  have x : RowAt W (g.world.heap.size) 23 [.int .i64 0, .string ⟨#[]⟩] := by rw [hW]; exact (by repeat (first | assumption | exact RowAt.new_at _ _ _ _ (by (first | omega | (simp; done) | (simp; omega) | (simp at *; omega))) | (refine RowAt.alloc ?_ _) | (refine RowAt.gr ?_ _) | (refine RowAt.setOther ?_ _ _ (by (first | omega | (simp; done) | (simp; omega) | (simp at *; omega)))) | (refine RowAt.drew ?_)))
  clear hW
  obtain ⟨xc0, xc1, xf0, xf1, xl⟩ := x.two
  generalize g.world.heap.size = kx at *
  clear g
  refine Calls.mono (few_any _ _ _ _ (hy.at_ hBW)) ?_
  rintro e w' ⟨⟨u, rfl, hu⟩, rfl⟩
  go_wp2_with fail
  with_reducible refine Calls.mono (Calls.gr0 (of_no _ _ _ h)) ?_
  rintro e w' ⟨rfl, g, rfl⟩
  have hgl := g.le
  go_wp2_with fail
  refine Calls.named (fun W hW => ?_)
  have hBW : Below w.heap.size w W := by rw [hW]; exact (by repeat (first | exact Below.refl _ _ | assumption | (refine Below.setCell ?_ (by (first | omega | (simp; done) | (simp; omega) | (simp at *; omega))) _) | (refine Below.alloc ?_ (by (first | omega | (simp; done) | (simp; omega) | (simp at *; omega))) _) | (refine Below.drew ?_) | (refine Gr.into _ ?_ (by (first | omega | (simp; done) | (simp; omega) | (simp at *; omega))))))
  have x : RowAt W (kx) 23 [.int .i64 0, .string ⟨#[]⟩] := by rw [hW]; exact (by repeat (first | assumption | exact RowAt.new_at _ _ _ _ (by (first | omega | (simp; done) | (simp; omega) | (simp at *; omega))) | (refine RowAt.alloc ?_ _) | (refine RowAt.gr ?_ _) | (refine RowAt.setOther ?_ _ _ (by (first | omega | (simp; done) | (simp; omega) | (simp at *; omega)))) | (refine RowAt.drew ?_)))
  have y : RowAt W (g.world.heap.size) 23 [.int .i64 0, .string ⟨#[]⟩] := by rw [hW]; exact (by repeat (first | assumption | exact RowAt.new_at _ _ _ _ (by (first | omega | (simp; done) | (simp; omega) | (simp at *; omega))) | (refine RowAt.alloc ?_ _) | (refine RowAt.gr ?_ _) | (refine RowAt.setOther ?_ _ _ (by (first | omega | (simp; done) | (simp; omega) | (simp at *; omega)))) | (refine RowAt.drew ?_)))
  clear hW
  obtain ⟨xc0, xc1, xf0, xf1, xl⟩ := x.two
  obtain ⟨yc0, yc1, yf0, yf1, yl⟩ := y.two
  generalize g.world.heap.size = ky at *
  clear g
  refine Calls.mono (few_any _ _ _ _ (hu0.at_ hBW)) ?_
  rintro e w' ⟨⟨u, rfl, hu⟩, rfl⟩
  go_wp2_with fail
  with_reducible refine Calls.mono (Calls.gr0 (of_no _ _ _ h)) ?_
  rintro e w' ⟨rfl, g, rfl⟩
  have hgl := g.le
  go_wp2_with fail
  all_goals (go_ret; exact ⟨by first | rfl | (simp; omega), (by repeat (first | exact Below.refl _ _ | assumption | (refine Below.setCell ?_ (by (first | omega | (simp; done) | (simp; omega) | (simp at *; omega))) _) | (refine Below.alloc ?_ (by (first | omega | (simp; done) | (simp; omega) | (simp at *; omega))) _) | (refine Below.drew ?_) | (refine Gr.into _ ?_ (by (first | omega | (simp; done) | (simp; omega) | (simp at *; omega))))))⟩)

set_option maxRecDepth 100000 in
set_option maxHeartbeats 2000000 in
theorem rules_yes (b : Nat) (v v2 v3 : Value) (zs ys us : List Nat) (w : World) (hb : isBitsB b = true) (hz : U64s w.heap.size w v zs) (hy : U64s w.heap.size w v2 ys) (hu0 : U64s w.heap.size w v3 us) :
    Calls Try.prog 7 #[.int .i64 b, v, v2, v3] w fun e w' => e = .returned (.bool true) ∧ Below w.heap.size w w' := by
  obtain ⟨h3, h8⟩ := isBits_bd hb
  obtain ⟨SX, hSX⟩ : ∃ S : ByteArray, S = ⟨(regsOf b (zs.take 100)).toArray⟩ := ⟨_, rfl⟩
  obtain ⟨SY, hSY⟩ : ∃ S : ByteArray, S = ⟨(regsOf b (ys.take 100)).toArray⟩ := ⟨_, rfl⟩
  obtain ⟨SZ, hSZ⟩ : ∃ S : ByteArray, S = ⟨(regsOf b (us.take 100)).toArray⟩ := ⟨_, rfl⟩
  obtain ⟨SA, hSA⟩ : ∃ S : ByteArray, S = ⟨(regsOf b (zs.take 100 ++ ys.take 100)).toArray⟩ := ⟨_, rfl⟩
  obtain ⟨SC, hSC⟩ : ∃ S : ByteArray, S = ⟨(regsOf b (ys.take 100 ++ us.take 100)).toArray⟩ := ⟨_, rfl⟩
  obtain ⟨SB, hSB⟩ : ∃ S : ByteArray, S = ⟨(regsOf b (zs.take 100 ++ ys.take 100 ++ us.take 100)).toArray⟩ := ⟨_, rfl⟩
  obtain ⟨f, hf⟩ : ∃ f : Nat → ByteArray, ∀ n, f n = ⟨(regsOf n (zs.take 100)).toArray⟩ := ⟨_, fun _ => rfl⟩
  have hfb : f b = SX := by rw [hf, hSX]
  have cX : ∀ u W, U64s W.heap.size W u (zs.take 100) → Calls Try.prog 10 #[.int .i64 b, u] W fun e w' => e = hllRes b SX 0 ∧ Below W.heap.size W w' := fun u W hu => by
    rw [hSX]; exact of_calls hb hu
  have cY : ∀ u W, U64s W.heap.size W u (ys.take 100) → Calls Try.prog 10 #[.int .i64 b, u] W fun e w' => e = hllRes b SY 0 ∧ Below W.heap.size W w' := fun u W hu => by
    rw [hSY]; exact of_calls hb hu
  have cZ : ∀ u W, U64s W.heap.size W u (us.take 100) → Calls Try.prog 10 #[.int .i64 b, u] W fun e w' => e = hllRes b SZ 0 ∧ Below W.heap.size W w' := fun u W hu => by
    rw [hSZ]; exact of_calls hb hu
  have c3 : ∀ u W, U64s W.heap.size W u (zs.take 100) → Calls Try.prog 10 #[.int .i64 3, u] W fun e w' => e = hllRes 3 (f 3) 0 ∧ Below W.heap.size W w' := fun u W hu => by
    rw [hf]; exact of_calls (b := 3) (by decide) hu
  have low : ∀ (n : Nat) W, 4 ≤ n → n ≤ 8 → Calls Try.prog 22 #[.agg #[.int .i64 n, .string (f n)]] W fun e w' => e = hllRes (n - 1 : Nat) (f (n - 1)) 0 ∧ Below W.heap.size W w' := fun n W h4 h8 => by
    have := lower_yes n ⟨(regsOf n (zs.take 100)).toArray⟩ W (regsOf_right (by simp [isBitsB]; omega) _) h4
    rw [show lowerL (⟨(regsOf n (zs.take 100)).toArray⟩ : ByteArray).data.toList = regsOf (n - 1) (zs.take 100) from lower_regsOf h4 h8 _] at this
    rw [hf, hf]; exact this
  have mA : ∀ W, Calls Try.prog 21 #[.agg #[.int .i64 b, .string SX], .agg #[.int .i64 b, .string SY]] W fun e w' => e = hllRes b SA 0 ∧ Below W.heap.size W w' := by rw [hSX, hSY, hSA]; exact merge_calls hb _ _
  have mB : ∀ W, Calls Try.prog 21 #[.agg #[.int .i64 b, .string SA], .agg #[.int .i64 b, .string SZ]] W fun e w' => e = hllRes b SB 0 ∧ Below W.heap.size W w' := by rw [hSA, hSZ, hSB]; exact merge_calls hb _ _
  have mC : ∀ W, Calls Try.prog 21 #[.agg #[.int .i64 b, .string SY], .agg #[.int .i64 b, .string SZ]] W fun e w' => e = hllRes b SC 0 ∧ Below W.heap.size W w' := by rw [hSY, hSZ, hSC]; exact merge_calls hb _ _
  have mD : ∀ W, Calls Try.prog 21 #[.agg #[.int .i64 b, .string SX], .agg #[.int .i64 b, .string SC]] W fun e w' => e = hllRes b SB 0 ∧ Below W.heap.size W w' := by rw [hSX, hSC, hSB, List.append_assoc]; exact merge_calls hb _ _
  clear hSX hSY hSA hSC hSZ hSB hf hb
  go_enter Try.func7, Try.ntmps7
  go_wp2_with (first
    | (go_at_call 8; (first | (with_reducible refine Calls.mono (Calls.gr (shown_any _)) ?_) | (refine Calls.mono (Calls.gr0 (shown_any _)) ?_)); rintro e w' ⟨rfl, g, rfl⟩; have hgl := g.le; (try simp only [World.size_alloc] at hgl); (try simp only [World.size_setCell] at hgl)))
  refine Calls.mono (few_any _ _ _ _ (hz.at_ g.below)) ?_
  rintro e w' ⟨⟨u, rfl, hu⟩, rfl⟩
  go_wp2_with fail
  with_reducible refine Calls.mono (Calls.gr (cX _ _ hu)) ?_
  rintro e w' ⟨rfl, g, rfl⟩
  have hgl := g.le
  go_wp2_with fail
  refine Calls.named (fun W hW => ?_)
  have hBW : Below w.heap.size w W := by rw [hW]; exact (by repeat (first | exact Below.refl _ _ | assumption | (refine Below.setCell ?_ (by (first | omega | (simp; done) | (simp; omega) | (simp at *; omega))) _) | (refine Below.alloc ?_ (by (first | omega | (simp; done) | (simp; omega) | (simp at *; omega))) _) | (refine Below.drew ?_) | (refine Gr.into _ ?_ (by (first | omega | (simp; done) | (simp; omega) | (simp at *; omega))))))
  have x : RowAt W (g.world.heap.size) 23 [.int .i64 b, .string SX] := by rw [hW]; exact (by repeat (first | assumption | exact RowAt.new_at _ _ _ _ (by (first | omega | (simp; done) | (simp; omega) | (simp at *; omega))) | (refine RowAt.alloc ?_ _) | (refine RowAt.gr ?_ _) | (refine RowAt.setOther ?_ _ _ (by (first | omega | (simp; done) | (simp; omega) | (simp at *; omega)))) | (refine RowAt.drew ?_)))
  clear hW
  obtain ⟨xc0, xc1, xf0, xf1, xl⟩ := x.two
  generalize g.world.heap.size = kx at *
  clear g
  refine Calls.mono (few_any _ _ _ _ (hy.at_ hBW)) ?_
  rintro e w' ⟨⟨u, rfl, hu⟩, rfl⟩
  go_wp2_with fail
  with_reducible refine Calls.mono (Calls.gr0 (cY _ _ hu)) ?_
  rintro e w' ⟨rfl, g, rfl⟩
  have hgl := g.le
  go_wp2_with fail
  refine Calls.named (fun W hW => ?_)
  have hBW : Below w.heap.size w W := by rw [hW]; exact (by repeat (first | exact Below.refl _ _ | assumption | (refine Below.setCell ?_ (by (first | omega | (simp; done) | (simp; omega) | (simp at *; omega))) _) | (refine Below.alloc ?_ (by (first | omega | (simp; done) | (simp; omega) | (simp at *; omega))) _) | (refine Below.drew ?_) | (refine Gr.into _ ?_ (by (first | omega | (simp; done) | (simp; omega) | (simp at *; omega))))))
  have x : RowAt W (kx) 23 [.int .i64 b, .string SX] := by rw [hW]; exact (by repeat (first | assumption | exact RowAt.new_at _ _ _ _ (by (first | omega | (simp; done) | (simp; omega) | (simp at *; omega))) | (refine RowAt.alloc ?_ _) | (refine RowAt.gr ?_ _) | (refine RowAt.setOther ?_ _ _ (by (first | omega | (simp; done) | (simp; omega) | (simp at *; omega)))) | (refine RowAt.drew ?_)))
  have y : RowAt W (g.world.heap.size) 23 [.int .i64 b, .string SY] := by rw [hW]; exact (by repeat (first | assumption | exact RowAt.new_at _ _ _ _ (by (first | omega | (simp; done) | (simp; omega) | (simp at *; omega))) | (refine RowAt.alloc ?_ _) | (refine RowAt.gr ?_ _) | (refine RowAt.setOther ?_ _ _ (by (first | omega | (simp; done) | (simp; omega) | (simp at *; omega)))) | (refine RowAt.drew ?_)))
  clear hW
  obtain ⟨xc0, xc1, xf0, xf1, xl⟩ := x.two
  obtain ⟨yc0, yc1, yf0, yf1, yl⟩ := y.two
  generalize g.world.heap.size = ky at *
  clear g
  refine Calls.mono (few_any _ _ _ _ (hu0.at_ hBW)) ?_
  rintro e w' ⟨⟨u, rfl, hu⟩, rfl⟩
  go_wp2_with fail
  with_reducible refine Calls.mono (Calls.gr0 (cZ _ _ hu)) ?_
  rintro e w' ⟨rfl, g, rfl⟩
  have hgl := g.le
  go_wp2_with fail
  refine Calls.named (fun W hW => ?_)
  have hBW : Below w.heap.size w W := by rw [hW]; exact (by repeat (first | exact Below.refl _ _ | assumption | (refine Below.setCell ?_ (by (first | omega | (simp; done) | (simp; omega) | (simp at *; omega))) _) | (refine Below.alloc ?_ (by (first | omega | (simp; done) | (simp; omega) | (simp at *; omega))) _) | (refine Below.drew ?_) | (refine Gr.into _ ?_ (by (first | omega | (simp; done) | (simp; omega) | (simp at *; omega))))))
  have x : RowAt W (kx) 23 [.int .i64 b, .string SX] := by rw [hW]; exact (by repeat (first | assumption | exact RowAt.new_at _ _ _ _ (by (first | omega | (simp; done) | (simp; omega) | (simp at *; omega))) | (refine RowAt.alloc ?_ _) | (refine RowAt.gr ?_ _) | (refine RowAt.setOther ?_ _ _ (by (first | omega | (simp; done) | (simp; omega) | (simp at *; omega)))) | (refine RowAt.drew ?_)))
  have y : RowAt W (ky) 23 [.int .i64 b, .string SY] := by rw [hW]; exact (by repeat (first | assumption | exact RowAt.new_at _ _ _ _ (by (first | omega | (simp; done) | (simp; omega) | (simp at *; omega))) | (refine RowAt.alloc ?_ _) | (refine RowAt.gr ?_ _) | (refine RowAt.setOther ?_ _ _ (by (first | omega | (simp; done) | (simp; omega) | (simp at *; omega)))) | (refine RowAt.drew ?_)))
  have z : RowAt W (g.world.heap.size) 23 [.int .i64 b, .string SZ] := by rw [hW]; exact (by repeat (first | assumption | exact RowAt.new_at _ _ _ _ (by (first | omega | (simp; done) | (simp; omega) | (simp at *; omega))) | (refine RowAt.alloc ?_ _) | (refine RowAt.gr ?_ _) | (refine RowAt.setOther ?_ _ _ (by (first | omega | (simp; done) | (simp; omega) | (simp at *; omega)))) | (refine RowAt.drew ?_)))
  clear hW
  obtain ⟨xc0, xc1, xf0, xf1, xl⟩ := x.two
  obtain ⟨yc0, yc1, yf0, yf1, yl⟩ := y.two
  obtain ⟨zc0, zc1, zf0, zf1, zl⟩ := z.two
  generalize g.world.heap.size = kz at *
  clear g
  with_reducible refine Calls.mono (Calls.gr0 (mA _)) ?_
  rintro e w' ⟨rfl, g, rfl⟩
  have hgl := g.le
  go_wp2_with fail
  refine Calls.named (fun W hW => ?_)
  have hBW : Below w.heap.size w W := by rw [hW]; exact (by repeat (first | exact Below.refl _ _ | assumption | (refine Below.setCell ?_ (by (first | omega | (simp; done) | (simp; omega) | (simp at *; omega))) _) | (refine Below.alloc ?_ (by (first | omega | (simp; done) | (simp; omega) | (simp at *; omega))) _) | (refine Below.drew ?_) | (refine Gr.into _ ?_ (by (first | omega | (simp; done) | (simp; omega) | (simp at *; omega))))))
  have x : RowAt W (kx) 23 [.int .i64 b, .string SX] := by rw [hW]; exact (by repeat (first | assumption | exact RowAt.new_at _ _ _ _ (by (first | omega | (simp; done) | (simp; omega) | (simp at *; omega))) | (refine RowAt.alloc ?_ _) | (refine RowAt.gr ?_ _) | (refine RowAt.setOther ?_ _ _ (by (first | omega | (simp; done) | (simp; omega) | (simp at *; omega)))) | (refine RowAt.drew ?_)))
  have y : RowAt W (ky) 23 [.int .i64 b, .string SY] := by rw [hW]; exact (by repeat (first | assumption | exact RowAt.new_at _ _ _ _ (by (first | omega | (simp; done) | (simp; omega) | (simp at *; omega))) | (refine RowAt.alloc ?_ _) | (refine RowAt.gr ?_ _) | (refine RowAt.setOther ?_ _ _ (by (first | omega | (simp; done) | (simp; omega) | (simp at *; omega)))) | (refine RowAt.drew ?_)))
  have z : RowAt W (kz) 23 [.int .i64 b, .string SZ] := by rw [hW]; exact (by repeat (first | assumption | exact RowAt.new_at _ _ _ _ (by (first | omega | (simp; done) | (simp; omega) | (simp at *; omega))) | (refine RowAt.alloc ?_ _) | (refine RowAt.gr ?_ _) | (refine RowAt.setOther ?_ _ _ (by (first | omega | (simp; done) | (simp; omega) | (simp at *; omega)))) | (refine RowAt.drew ?_)))
  have a : RowAt W (g.world.heap.size) 23 [.int .i64 b, .string SA] := by rw [hW]; exact (by repeat (first | assumption | exact RowAt.new_at _ _ _ _ (by (first | omega | (simp; done) | (simp; omega) | (simp at *; omega))) | (refine RowAt.alloc ?_ _) | (refine RowAt.gr ?_ _) | (refine RowAt.setOther ?_ _ _ (by (first | omega | (simp; done) | (simp; omega) | (simp at *; omega)))) | (refine RowAt.drew ?_)))
  clear hW
  obtain ⟨xc0, xc1, xf0, xf1, xl⟩ := x.two
  obtain ⟨yc0, yc1, yf0, yf1, yl⟩ := y.two
  obtain ⟨zc0, zc1, zf0, zf1, zl⟩ := z.two
  obtain ⟨ac0, ac1, af0, af1, al⟩ := a.two
  generalize g.world.heap.size = ka at *
  clear g
  with_reducible refine Calls.mono (Calls.gr0 (mB _)) ?_
  rintro e w' ⟨rfl, g, rfl⟩
  have hgl := g.le
  go_wp2_with fail
  refine Calls.named (fun W hW => ?_)
  have hBW : Below w.heap.size w W := by rw [hW]; exact (by repeat (first | exact Below.refl _ _ | assumption | (refine Below.setCell ?_ (by (first | omega | (simp; done) | (simp; omega) | (simp at *; omega))) _) | (refine Below.alloc ?_ (by (first | omega | (simp; done) | (simp; omega) | (simp at *; omega))) _) | (refine Below.drew ?_) | (refine Gr.into _ ?_ (by (first | omega | (simp; done) | (simp; omega) | (simp at *; omega))))))
  have x : RowAt W (kx) 23 [.int .i64 b, .string SX] := by rw [hW]; exact (by repeat (first | assumption | exact RowAt.new_at _ _ _ _ (by (first | omega | (simp; done) | (simp; omega) | (simp at *; omega))) | (refine RowAt.alloc ?_ _) | (refine RowAt.gr ?_ _) | (refine RowAt.setOther ?_ _ _ (by (first | omega | (simp; done) | (simp; omega) | (simp at *; omega)))) | (refine RowAt.drew ?_)))
  have y : RowAt W (ky) 23 [.int .i64 b, .string SY] := by rw [hW]; exact (by repeat (first | assumption | exact RowAt.new_at _ _ _ _ (by (first | omega | (simp; done) | (simp; omega) | (simp at *; omega))) | (refine RowAt.alloc ?_ _) | (refine RowAt.gr ?_ _) | (refine RowAt.setOther ?_ _ _ (by (first | omega | (simp; done) | (simp; omega) | (simp at *; omega)))) | (refine RowAt.drew ?_)))
  have z : RowAt W (kz) 23 [.int .i64 b, .string SZ] := by rw [hW]; exact (by repeat (first | assumption | exact RowAt.new_at _ _ _ _ (by (first | omega | (simp; done) | (simp; omega) | (simp at *; omega))) | (refine RowAt.alloc ?_ _) | (refine RowAt.gr ?_ _) | (refine RowAt.setOther ?_ _ _ (by (first | omega | (simp; done) | (simp; omega) | (simp at *; omega)))) | (refine RowAt.drew ?_)))
  have a : RowAt W (ka) 23 [.int .i64 b, .string SA] := by rw [hW]; exact (by repeat (first | assumption | exact RowAt.new_at _ _ _ _ (by (first | omega | (simp; done) | (simp; omega) | (simp at *; omega))) | (refine RowAt.alloc ?_ _) | (refine RowAt.gr ?_ _) | (refine RowAt.setOther ?_ _ _ (by (first | omega | (simp; done) | (simp; omega) | (simp at *; omega)))) | (refine RowAt.drew ?_)))
  have b2 : RowAt W (g.world.heap.size) 23 [.int .i64 b, .string SB] := by rw [hW]; exact (by repeat (first | assumption | exact RowAt.new_at _ _ _ _ (by (first | omega | (simp; done) | (simp; omega) | (simp at *; omega))) | (refine RowAt.alloc ?_ _) | (refine RowAt.gr ?_ _) | (refine RowAt.setOther ?_ _ _ (by (first | omega | (simp; done) | (simp; omega) | (simp at *; omega)))) | (refine RowAt.drew ?_)))
  clear hW
  obtain ⟨xc0, xc1, xf0, xf1, xl⟩ := x.two
  obtain ⟨yc0, yc1, yf0, yf1, yl⟩ := y.two
  obtain ⟨zc0, zc1, zf0, zf1, zl⟩ := z.two
  obtain ⟨ac0, ac1, af0, af1, al⟩ := a.two
  obtain ⟨b2c0, b2c1, b2f0, b2f1, b2l⟩ := b2.two
  generalize g.world.heap.size = kb2 at *
  clear g
  with_reducible refine Calls.mono (Calls.gr0 (mC _)) ?_
  rintro e w' ⟨rfl, g, rfl⟩
  have hgl := g.le
  go_wp2_with fail
  refine Calls.named (fun W hW => ?_)
  have hBW : Below w.heap.size w W := by rw [hW]; exact (by repeat (first | exact Below.refl _ _ | assumption | (refine Below.setCell ?_ (by (first | omega | (simp; done) | (simp; omega) | (simp at *; omega))) _) | (refine Below.alloc ?_ (by (first | omega | (simp; done) | (simp; omega) | (simp at *; omega))) _) | (refine Below.drew ?_) | (refine Gr.into _ ?_ (by (first | omega | (simp; done) | (simp; omega) | (simp at *; omega))))))
  have x : RowAt W (kx) 23 [.int .i64 b, .string SX] := by rw [hW]; exact (by repeat (first | assumption | exact RowAt.new_at _ _ _ _ (by (first | omega | (simp; done) | (simp; omega) | (simp at *; omega))) | (refine RowAt.alloc ?_ _) | (refine RowAt.gr ?_ _) | (refine RowAt.setOther ?_ _ _ (by (first | omega | (simp; done) | (simp; omega) | (simp at *; omega)))) | (refine RowAt.drew ?_)))
  have y : RowAt W (ky) 23 [.int .i64 b, .string SY] := by rw [hW]; exact (by repeat (first | assumption | exact RowAt.new_at _ _ _ _ (by (first | omega | (simp; done) | (simp; omega) | (simp at *; omega))) | (refine RowAt.alloc ?_ _) | (refine RowAt.gr ?_ _) | (refine RowAt.setOther ?_ _ _ (by (first | omega | (simp; done) | (simp; omega) | (simp at *; omega)))) | (refine RowAt.drew ?_)))
  have z : RowAt W (kz) 23 [.int .i64 b, .string SZ] := by rw [hW]; exact (by repeat (first | assumption | exact RowAt.new_at _ _ _ _ (by (first | omega | (simp; done) | (simp; omega) | (simp at *; omega))) | (refine RowAt.alloc ?_ _) | (refine RowAt.gr ?_ _) | (refine RowAt.setOther ?_ _ _ (by (first | omega | (simp; done) | (simp; omega) | (simp at *; omega)))) | (refine RowAt.drew ?_)))
  have a : RowAt W (ka) 23 [.int .i64 b, .string SA] := by rw [hW]; exact (by repeat (first | assumption | exact RowAt.new_at _ _ _ _ (by (first | omega | (simp; done) | (simp; omega) | (simp at *; omega))) | (refine RowAt.alloc ?_ _) | (refine RowAt.gr ?_ _) | (refine RowAt.setOther ?_ _ _ (by (first | omega | (simp; done) | (simp; omega) | (simp at *; omega)))) | (refine RowAt.drew ?_)))
  have b2 : RowAt W (kb2) 23 [.int .i64 b, .string SB] := by rw [hW]; exact (by repeat (first | assumption | exact RowAt.new_at _ _ _ _ (by (first | omega | (simp; done) | (simp; omega) | (simp at *; omega))) | (refine RowAt.alloc ?_ _) | (refine RowAt.gr ?_ _) | (refine RowAt.setOther ?_ _ _ (by (first | omega | (simp; done) | (simp; omega) | (simp at *; omega)))) | (refine RowAt.drew ?_)))
  have c : RowAt W (g.world.heap.size) 23 [.int .i64 b, .string SC] := by rw [hW]; exact (by repeat (first | assumption | exact RowAt.new_at _ _ _ _ (by (first | omega | (simp; done) | (simp; omega) | (simp at *; omega))) | (refine RowAt.alloc ?_ _) | (refine RowAt.gr ?_ _) | (refine RowAt.setOther ?_ _ _ (by (first | omega | (simp; done) | (simp; omega) | (simp at *; omega)))) | (refine RowAt.drew ?_)))
  clear hW
  obtain ⟨xc0, xc1, xf0, xf1, xl⟩ := x.two
  obtain ⟨yc0, yc1, yf0, yf1, yl⟩ := y.two
  obtain ⟨zc0, zc1, zf0, zf1, zl⟩ := z.two
  obtain ⟨ac0, ac1, af0, af1, al⟩ := a.two
  obtain ⟨b2c0, b2c1, b2f0, b2f1, b2l⟩ := b2.two
  obtain ⟨cc0, cc1, cf0, cf1, cl⟩ := c.two
  generalize g.world.heap.size = kc at *
  clear g
  with_reducible refine Calls.mono (Calls.gr0 (mD _)) ?_
  rintro e w' ⟨rfl, g, rfl⟩
  have hgl := g.le
  go_wp2_with fail
  refine wp_named (fun W hW => ?_)
  have hBW : Below w.heap.size w W := by rw [hW]; exact (by repeat (first | exact Below.refl _ _ | assumption | (refine Below.setCell ?_ (by (first | omega | (simp; done) | (simp; omega) | (simp at *; omega))) _) | (refine Below.alloc ?_ (by (first | omega | (simp; done) | (simp; omega) | (simp at *; omega))) _) | (refine Below.drew ?_) | (refine Gr.into _ ?_ (by (first | omega | (simp; done) | (simp; omega) | (simp at *; omega))))))
  have x : RowAt W (kx) 23 [.int .i64 b, .string SX] := by rw [hW]; exact (by repeat (first | assumption | exact RowAt.new_at _ _ _ _ (by (first | omega | (simp; done) | (simp; omega) | (simp at *; omega))) | (refine RowAt.alloc ?_ _) | (refine RowAt.gr ?_ _) | (refine RowAt.setOther ?_ _ _ (by (first | omega | (simp; done) | (simp; omega) | (simp at *; omega)))) | (refine RowAt.drew ?_)))
  have y : RowAt W (ky) 23 [.int .i64 b, .string SY] := by rw [hW]; exact (by repeat (first | assumption | exact RowAt.new_at _ _ _ _ (by (first | omega | (simp; done) | (simp; omega) | (simp at *; omega))) | (refine RowAt.alloc ?_ _) | (refine RowAt.gr ?_ _) | (refine RowAt.setOther ?_ _ _ (by (first | omega | (simp; done) | (simp; omega) | (simp at *; omega)))) | (refine RowAt.drew ?_)))
  have z : RowAt W (kz) 23 [.int .i64 b, .string SZ] := by rw [hW]; exact (by repeat (first | assumption | exact RowAt.new_at _ _ _ _ (by (first | omega | (simp; done) | (simp; omega) | (simp at *; omega))) | (refine RowAt.alloc ?_ _) | (refine RowAt.gr ?_ _) | (refine RowAt.setOther ?_ _ _ (by (first | omega | (simp; done) | (simp; omega) | (simp at *; omega)))) | (refine RowAt.drew ?_)))
  have a : RowAt W (ka) 23 [.int .i64 b, .string SA] := by rw [hW]; exact (by repeat (first | assumption | exact RowAt.new_at _ _ _ _ (by (first | omega | (simp; done) | (simp; omega) | (simp at *; omega))) | (refine RowAt.alloc ?_ _) | (refine RowAt.gr ?_ _) | (refine RowAt.setOther ?_ _ _ (by (first | omega | (simp; done) | (simp; omega) | (simp at *; omega)))) | (refine RowAt.drew ?_)))
  have b2 : RowAt W (kb2) 23 [.int .i64 b, .string SB] := by rw [hW]; exact (by repeat (first | assumption | exact RowAt.new_at _ _ _ _ (by (first | omega | (simp; done) | (simp; omega) | (simp at *; omega))) | (refine RowAt.alloc ?_ _) | (refine RowAt.gr ?_ _) | (refine RowAt.setOther ?_ _ _ (by (first | omega | (simp; done) | (simp; omega) | (simp at *; omega)))) | (refine RowAt.drew ?_)))
  have c : RowAt W (kc) 23 [.int .i64 b, .string SC] := by rw [hW]; exact (by repeat (first | assumption | exact RowAt.new_at _ _ _ _ (by (first | omega | (simp; done) | (simp; omega) | (simp at *; omega))) | (refine RowAt.alloc ?_ _) | (refine RowAt.gr ?_ _) | (refine RowAt.setOther ?_ _ _ (by (first | omega | (simp; done) | (simp; omega) | (simp at *; omega)))) | (refine RowAt.drew ?_)))
  have d : RowAt W (g.world.heap.size) 23 [.int .i64 b, .string SB] := by rw [hW]; exact (by repeat (first | assumption | exact RowAt.new_at _ _ _ _ (by (first | omega | (simp; done) | (simp; omega) | (simp at *; omega))) | (refine RowAt.alloc ?_ _) | (refine RowAt.gr ?_ _) | (refine RowAt.setOther ?_ _ _ (by (first | omega | (simp; done) | (simp; omega) | (simp at *; omega)))) | (refine RowAt.drew ?_)))
  clear hW
  obtain ⟨xc0, xc1, xf0, xf1, xl⟩ := x.two
  obtain ⟨yc0, yc1, yf0, yf1, yl⟩ := y.two
  obtain ⟨zc0, zc1, zf0, zf1, zl⟩ := z.two
  obtain ⟨ac0, ac1, af0, af1, al⟩ := a.two
  obtain ⟨b2c0, b2c1, b2f0, b2f1, b2l⟩ := b2.two
  obtain ⟨cc0, cc1, cf0, cf1, cl⟩ := c.two
  obtain ⟨dc0, dc1, df0, df1, dl⟩ := d.two
  generalize g.world.heap.size = kd at *
  clear g
  have hsx : kx < kb2 ∧ kx < kd := ⟨by omega, by omega⟩
  go_loopw [24] (fun i wr => ∃ k : Nat, 3 ≤ k ∧ k ≤ b ∧ i = .int .i64 k ∧ Below w.heap.size w wr ∧ RowAt wr kx 23 [.int .i64 k, .string (f k)] ∧ RowAt wr kb2 23 [.int .i64 b, .string SB] ∧ RowAt wr kd 23 [.int .i64 b, .string SB])
    (fun i _ => (intOf i).toNat)
  case atStart => exact ⟨b, by omega, Nat.le_refl _, rfl, hBW, by rw [hfb]; exact x, b2, d⟩
  case round =>
    obtain ⟨k, hk3, hkb, rfl, hB, rx, rb, rd⟩ := hrel
    obtain ⟨xc0, xc1, xf0, xf1, xl⟩ := rx.two
    obtain ⟨bc0, bc1, bf0, bf1, bl⟩ := rb.two
    obtain ⟨dc0, dc1, df0, df1, dl⟩ := rd.two
    by_cases hlt : 3 < k
    · go_wp2_with fail
      with_reducible refine Calls.mono (Calls.gr0 (low k _ (by omega) (by omega))) ?_
      rintro e w' ⟨rfl, g, rfl⟩
      have hgl := g.le
      go_wp2_with fail
      go_roundw
      case rel =>
        exact ⟨k - 1, by omega, by omega, by congr 1; omega, (by repeat (first | exact Below.refl _ _ | assumption | (refine Below.setCell ?_ (by (first | omega | (simp; done) | (simp; omega) | (simp at *; omega))) _) | (refine Below.alloc ?_ (by (first | omega | (simp; done) | (simp; omega) | (simp at *; omega))) _) | (refine Below.drew ?_) | (refine Gr.into _ ?_ (by (first | omega | (simp; done) | (simp; omega) | (simp at *; omega)))))), (((rx.gr g).set 0 _).set 1 _).alloc _, (by repeat (first | assumption | exact RowAt.new_at _ _ _ _ (by (first | omega | (simp; done) | (simp; omega) | (simp at *; omega))) | (refine RowAt.alloc ?_ _) | (refine RowAt.gr ?_ _) | (refine RowAt.setOther ?_ _ _ (by (first | omega | (simp; done) | (simp; omega) | (simp at *; omega)))) | (refine RowAt.drew ?_))), (by repeat (first | assumption | exact RowAt.new_at _ _ _ _ (by (first | omega | (simp; done) | (simp; omega) | (simp at *; omega))) | (refine RowAt.alloc ?_ _) | (refine RowAt.gr ?_ _) | (refine RowAt.setOther ?_ _ _ (by (first | omega | (simp; done) | (simp; omega) | (simp at *; omega)))) | (refine RowAt.drew ?_)))⟩
      case measure => simp [intOf]; omega
    · obtain rfl : k = 3 := by omega
      go_wp2_with fail
      refine Calls.mono (few_any _ _ _ _ (hz.at_ hB)) ?_
      rintro e w' ⟨⟨u, rfl, hu⟩, rfl⟩
      go_wp2_with fail
      with_reducible refine Calls.mono (Calls.gr0 (c3 _ _ hu)) ?_
      rintro e w' ⟨rfl, g, rfl⟩
      have hgl := g.le
      go_wp2_with fail
      go_ret
      exact ⟨by simp, (by repeat (first | exact Below.refl _ _ | assumption | (refine Below.setCell ?_ (by (first | omega | (simp; done) | (simp; omega) | (simp at *; omega))) _) | (refine Below.alloc ?_ (by (first | omega | (simp; done) | (simp; omega) | (simp at *; omega))) _) | (refine Below.drew ?_) | (refine Gr.into _ ?_ (by (first | omega | (simp; done) | (simp; omega) | (simp at *; omega))))))⟩

theorem rules_all (b : Int) (v v2 v3 : Value) (zs ys us : List Nat) (w : World) (hz : U64s w.heap.size w v zs) (hy : U64s w.heap.size w v2 ys) (hu : U64s w.heap.size w v3 us) :
    Calls Try.prog 7 #[.int .i64 b, v, v2, v3] w fun e w' => e = .returned (.bool true) ∧ Below w.heap.size w w' := by
  cases h : isBitsB b
  · exact rules_no b v v2 v3 zs ys us w h hz hy hu
  · obtain ⟨h1, h2⟩ := isBits_bd h
    obtain ⟨n, rfl⟩ := Int.eq_ofNat_of_zero_le (a := b) (by omega)
    exact rules_yes n v v2 v3 zs ys us w h hz hy hu
end Go.Proofs.Ytngahohheleeeaa
