/- The walk of the law HllParts. -/
import Derived.Test.YtngahohheleeeaaHS
import Derived.Test.YtngahohheleeeaaL0
namespace Go.Proofs.Ytngahohheleeeaa
open Go.RowKit

theorem U64s.at_ {w W : World} {v : Value} {zs : List Nat} (h : U64s w.heap.size w v zs) (hb : Below w.heap.size w W) : U64s W.heap.size W v zs :=
  (h.below hb (Nat.le_refl _)).mono hb.size
theorem merge_calls {b : Nat} (h : isBitsB b = true) (xs ys : List Nat) (w : World) :
    Calls Try.prog 21 #[.agg #[.int .i64 b, .string ⟨(regsOf b xs).toArray⟩], .agg #[.int .i64 b, .string ⟨(regsOf b ys).toArray⟩]] w fun e w' => e = hllRes b ⟨(regsOf b (xs ++ ys)).toArray⟩ 0 ∧ Below w.heap.size w w' := by
  have hb := isBits_bd h
  have := merge_yes b ⟨(regsOf b xs).toArray⟩ ⟨(regsOf b ys).toArray⟩ w (regsOf_right h xs) (regsOf_right h ys)
  rwa [show mergeB (⟨(regsOf b xs).toArray⟩ : ByteArray).data.toList (⟨(regsOf b ys).toArray⟩ : ByteArray).data.toList = regsOf b (xs ++ ys) from merge_regsOf (by omega) xs ys] at this
theorem of_calls {b : Nat} (h : isBitsB b = true) {v : Value} {zs : List Nat} {w : World} (hz : U64s w.heap.size w v zs) :
    Calls Try.prog 10 #[.int .i64 b, v] w fun e w' => e = hllRes b ⟨(regsOf b zs).toArray⟩ 0 ∧ Below w.heap.size w w' := of_yes b v zs w h hz
/-- What a list of numbers is cut into. -/
theorem U64s.cutAt {B : Nat} {w : World} {a off cap : Nat} {zs : List Nat} (h : U64s B w (.slice (some ⟨a, off, none⟩) zs.length cap) zs) (hc : zs.length ≤ cap) (k : Nat) (hk : k ≤ zs.length) :
    U64s B w (.slice (some ⟨a, off, none⟩) k cap) (zs.take k) := by
  obtain ⟨h1, h2, h3⟩ := h
  have hl : (zs.take k).length = k := by simp; omega
  refine ⟨fun z hz => h1 z (List.mem_of_mem_take hz), by omega, ?_⟩
  rcases h3 with ⟨a', e, rfl⟩ | ⟨a', off', cap', e, h4, h5, h6⟩
  · simp only [List.length_nil] at hk e
    obtain rfl : k = 0 := by omega
    cases e
    exact .inl ⟨_, rfl, rfl⟩
  · simp only [Value.slice.injEq, Option.some.injEq, Addr.mk.injEq] at e
    obtain ⟨⟨rfl, rfl, -⟩, -, rfl⟩ := e
    exact .inr ⟨a, off, cap, by rw [hl], h4, by omega, fun i hi => by rw [h6 i (by omega)]; simp⟩
theorem U64s.restAt {B : Nat} {w : World} {a off cap : Nat} {zs : List Nat} (h : U64s B w (.slice (some ⟨a, off, none⟩) zs.length cap) zs) (hc : zs.length ≤ cap) (k : Nat) (hk : k ≤ zs.length) (hlt : k < cap) :
    U64s B w (.slice (some ⟨a, off + k, none⟩) (zs.length - k) (cap - k)) (zs.drop k) := by
  obtain ⟨h1, h2, h3⟩ := h
  have hl : (zs.drop k).length = zs.length - k := by simp
  refine ⟨fun z hz => h1 z (List.mem_of_mem_drop hz), by omega, ?_⟩
  rcases h3 with ⟨a', e, rfl⟩ | ⟨a', off', cap', e, h4, h5, h6⟩
  · simp only [List.length_nil] at hk e
    cases e
    omega
  · simp only [Value.slice.injEq, Option.some.injEq, Addr.mk.injEq] at e
    obtain ⟨⟨rfl, rfl, -⟩, -, rfl⟩ := e
    exact .inr ⟨a, off + k, cap - k, by rw [hl], h4, by omega, fun i hi => by rw [Nat.add_assoc, h6 (k + i) (by omega)]; simp⟩

set_option maxRecDepth 100000 in
set_option maxHeartbeats 1000000 in
theorem parts_no (b at_ : Int) (v : Value) (zs : List Nat) (w : World) (h : isBitsB b = false) (hz : U64s w.heap.size w v zs) :
    Calls Try.prog 5 #[.int .i64 b, v, .int .i64 at_] w fun e w' => e = .returned (.bool true) ∧ Below w.heap.size w w' := by
  have hb : b < 3 ∨ 8 < b := by simp [isBitsB] at h; omega
  go_enter Try.func5, Try.ntmps5
  go_wp2_with (first
    | (go_at_call 8; (first | (with_reducible refine Calls.mono (Calls.gr (shown_any _)) ?_) | (refine Calls.mono (Calls.gr0 (shown_any _)) ?_)); rintro e w' ⟨rfl, g, rfl⟩; have hgl := g.le; (try simp only [World.size_alloc] at hgl); (try simp only [World.size_setCell] at hgl)))
  refine Calls.mono (few_any _ _ _ _ (hz.gr g (Nat.le_refl _))) ?_
  rintro e w' ⟨⟨u, rfl, hu⟩, rfl⟩
  have hlen : (zs.take 100).length ≤ 100 := List.length_take_le _ _
  generalize zs.take 100 = xs at *
  obtain ⟨k, hk, hkl⟩ : ∃ k : Nat, max 0 (min at_ (xs.length : Int)) = (k : Int) ∧ k ≤ xs.length := ⟨(max 0 (min at_ (xs.length : Int))).toNat, by omega, by omega⟩
  obtain ⟨-, -, ⟨a, rfl, rfl⟩ | ⟨a, off, cap, rfl, h3, hc, h4⟩⟩ := id hu
  · obtain rfl : k = 0 := by simpa using hkl
    have hz0 : max 0 (min at_ 0) = 0 := by omega
    rcases a with _ | a
    all_goals
      go_wp2_with fail
      with_reducible refine Calls.mono (Calls.gr (of_no _ _ _ h)) ?_
      rintro e w' ⟨rfl, g, rfl⟩
      have hgl := g.le
      go_wp2_with fail
      refine Calls.named (fun W hW => ?_)
      have hBW : Below w.heap.size w W := by rw [hW]; exact (by repeat (first | exact Below.refl _ _ | assumption | (refine Below.setCell ?_ (by (first | omega | (simp; done) | (simp; omega) | (simp at *; omega))) _) | (refine Below.alloc ?_ (by (first | omega | (simp; done) | (simp; omega) | (simp at *; omega))) _) | (refine Below.drew ?_) | (refine Gr.into _ ?_ (by (first | omega | (simp; done) | (simp; omega) | (simp at *; omega))))))
      have all : RowAt W (g.world.heap.size) 23 [.int .i64 0, .string ⟨#[]⟩] := by rw [hW]; exact (by repeat (first | assumption | exact RowAt.new_at _ _ _ _ (by (first | omega | (simp; done) | (simp; omega) | (simp at *; omega))) | (refine RowAt.alloc ?_ _) | (refine RowAt.gr ?_ _) | (refine RowAt.setOther ?_ _ _ (by (first | omega | (simp; done) | (simp; omega) | (simp at *; omega)))) | (refine RowAt.drew ?_)))
      clear hW
      obtain ⟨allc0, allc1, allf0, allf1, alll⟩ := all.two
      generalize g.world.heap.size = kall at *
      clear g
      with_reducible refine Calls.mono (Calls.gr0 (of_no _ _ _ h)) ?_
      rintro e w' ⟨rfl, g, rfl⟩
      have hgl := g.le
      go_wp2_with fail
      refine Calls.named (fun W hW => ?_)
      have hBW : Below w.heap.size w W := by rw [hW]; exact (by repeat (first | exact Below.refl _ _ | assumption | (refine Below.setCell ?_ (by (first | omega | (simp; done) | (simp; omega) | (simp at *; omega))) _) | (refine Below.alloc ?_ (by (first | omega | (simp; done) | (simp; omega) | (simp at *; omega))) _) | (refine Below.drew ?_) | (refine Gr.into _ ?_ (by (first | omega | (simp; done) | (simp; omega) | (simp at *; omega))))))
      have all : RowAt W (kall) 23 [.int .i64 0, .string ⟨#[]⟩] := by rw [hW]; exact (by repeat (first | assumption | exact RowAt.new_at _ _ _ _ (by (first | omega | (simp; done) | (simp; omega) | (simp at *; omega))) | (refine RowAt.alloc ?_ _) | (refine RowAt.gr ?_ _) | (refine RowAt.setOther ?_ _ _ (by (first | omega | (simp; done) | (simp; omega) | (simp at *; omega)))) | (refine RowAt.drew ?_)))
      have x : RowAt W (g.world.heap.size) 23 [.int .i64 0, .string ⟨#[]⟩] := by rw [hW]; exact (by repeat (first | assumption | exact RowAt.new_at _ _ _ _ (by (first | omega | (simp; done) | (simp; omega) | (simp at *; omega))) | (refine RowAt.alloc ?_ _) | (refine RowAt.gr ?_ _) | (refine RowAt.setOther ?_ _ _ (by (first | omega | (simp; done) | (simp; omega) | (simp at *; omega)))) | (refine RowAt.drew ?_)))
      clear hW
      obtain ⟨allc0, allc1, allf0, allf1, alll⟩ := all.two
      obtain ⟨xc0, xc1, xf0, xf1, xl⟩ := x.two
      generalize g.world.heap.size = kx at *
      clear g
      with_reducible refine Calls.mono (Calls.gr0 (of_no _ _ _ h)) ?_
      rintro e w' ⟨rfl, g, rfl⟩
      have hgl := g.le
      go_wp2_with fail
      all_goals (go_ret; exact ⟨by first | rfl | (simp; omega), (by repeat (first | exact Below.refl _ _ | assumption | (refine Below.setCell ?_ (by (first | omega | (simp; done) | (simp; omega) | (simp at *; omega))) _) | (refine Below.alloc ?_ (by (first | omega | (simp; done) | (simp; omega) | (simp at *; omega))) _) | (refine Below.drew ?_) | (refine Gr.into _ ?_ (by (first | omega | (simp; done) | (simp; omega) | (simp at *; omega))))))⟩)
  · by_cases hkc : k = cap
    · have hx : xs.length = cap := by omega
      subst hkc
      rw [hx] at hk
      go_wp2_with fail
      with_reducible refine Calls.mono (Calls.gr (of_no _ _ _ h)) ?_
      rintro e w' ⟨rfl, g, rfl⟩
      have hgl := g.le
      go_wp2_with fail
      refine Calls.named (fun W hW => ?_)
      have hBW : Below w.heap.size w W := by rw [hW]; exact (by repeat (first | exact Below.refl _ _ | assumption | (refine Below.setCell ?_ (by (first | omega | (simp; done) | (simp; omega) | (simp at *; omega))) _) | (refine Below.alloc ?_ (by (first | omega | (simp; done) | (simp; omega) | (simp at *; omega))) _) | (refine Below.drew ?_) | (refine Gr.into _ ?_ (by (first | omega | (simp; done) | (simp; omega) | (simp at *; omega))))))
      have all : RowAt W (g.world.heap.size) 23 [.int .i64 0, .string ⟨#[]⟩] := by rw [hW]; exact (by repeat (first | assumption | exact RowAt.new_at _ _ _ _ (by (first | omega | (simp; done) | (simp; omega) | (simp at *; omega))) | (refine RowAt.alloc ?_ _) | (refine RowAt.gr ?_ _) | (refine RowAt.setOther ?_ _ _ (by (first | omega | (simp; done) | (simp; omega) | (simp at *; omega)))) | (refine RowAt.drew ?_)))
      clear hW
      obtain ⟨allc0, allc1, allf0, allf1, alll⟩ := all.two
      generalize g.world.heap.size = kall at *
      clear g
      with_reducible refine Calls.mono (Calls.gr0 (of_no _ _ _ h)) ?_
      rintro e w' ⟨rfl, g, rfl⟩
      have hgl := g.le
      go_wp2_with fail
      refine Calls.named (fun W hW => ?_)
      have hBW : Below w.heap.size w W := by rw [hW]; exact (by repeat (first | exact Below.refl _ _ | assumption | (refine Below.setCell ?_ (by (first | omega | (simp; done) | (simp; omega) | (simp at *; omega))) _) | (refine Below.alloc ?_ (by (first | omega | (simp; done) | (simp; omega) | (simp at *; omega))) _) | (refine Below.drew ?_) | (refine Gr.into _ ?_ (by (first | omega | (simp; done) | (simp; omega) | (simp at *; omega))))))
      have all : RowAt W (kall) 23 [.int .i64 0, .string ⟨#[]⟩] := by rw [hW]; exact (by repeat (first | assumption | exact RowAt.new_at _ _ _ _ (by (first | omega | (simp; done) | (simp; omega) | (simp at *; omega))) | (refine RowAt.alloc ?_ _) | (refine RowAt.gr ?_ _) | (refine RowAt.setOther ?_ _ _ (by (first | omega | (simp; done) | (simp; omega) | (simp at *; omega)))) | (refine RowAt.drew ?_)))
      have x : RowAt W (g.world.heap.size) 23 [.int .i64 0, .string ⟨#[]⟩] := by rw [hW]; exact (by repeat (first | assumption | exact RowAt.new_at _ _ _ _ (by (first | omega | (simp; done) | (simp; omega) | (simp at *; omega))) | (refine RowAt.alloc ?_ _) | (refine RowAt.gr ?_ _) | (refine RowAt.setOther ?_ _ _ (by (first | omega | (simp; done) | (simp; omega) | (simp at *; omega)))) | (refine RowAt.drew ?_)))
      clear hW
      obtain ⟨allc0, allc1, allf0, allf1, alll⟩ := all.two
      obtain ⟨xc0, xc1, xf0, xf1, xl⟩ := x.two
      generalize g.world.heap.size = kx at *
      clear g
      with_reducible refine Calls.mono (Calls.gr0 (of_no _ _ _ h)) ?_
      rintro e w' ⟨rfl, g, rfl⟩
      have hgl := g.le
      go_wp2_with fail
      all_goals (go_ret; exact ⟨by first | rfl | (simp; omega), (by repeat (first | exact Below.refl _ _ | assumption | (refine Below.setCell ?_ (by (first | omega | (simp; done) | (simp; omega) | (simp at *; omega))) _) | (refine Below.alloc ?_ (by (first | omega | (simp; done) | (simp; omega) | (simp at *; omega))) _) | (refine Below.drew ?_) | (refine Gr.into _ ?_ (by (first | omega | (simp; done) | (simp; omega) | (simp at *; omega))))))⟩)
    · skip
      go_wp2_with fail
      with_reducible refine Calls.mono (Calls.gr (of_no _ _ _ h)) ?_
      rintro e w' ⟨rfl, g, rfl⟩
      have hgl := g.le
      go_wp2_with fail
      refine Calls.named (fun W hW => ?_)
      have hBW : Below w.heap.size w W := by rw [hW]; exact (by repeat (first | exact Below.refl _ _ | assumption | (refine Below.setCell ?_ (by (first | omega | (simp; done) | (simp; omega) | (simp at *; omega))) _) | (refine Below.alloc ?_ (by (first | omega | (simp; done) | (simp; omega) | (simp at *; omega))) _) | (refine Below.drew ?_) | (refine Gr.into _ ?_ (by (first | omega | (simp; done) | (simp; omega) | (simp at *; omega))))))
      have all : RowAt W (g.world.heap.size) 23 [.int .i64 0, .string ⟨#[]⟩] := by rw [hW]; exact (by repeat (first | assumption | exact RowAt.new_at _ _ _ _ (by (first | omega | (simp; done) | (simp; omega) | (simp at *; omega))) | (refine RowAt.alloc ?_ _) | (refine RowAt.gr ?_ _) | (refine RowAt.setOther ?_ _ _ (by (first | omega | (simp; done) | (simp; omega) | (simp at *; omega)))) | (refine RowAt.drew ?_)))
      clear hW
      obtain ⟨allc0, allc1, allf0, allf1, alll⟩ := all.two
      generalize g.world.heap.size = kall at *
      clear g
      with_reducible refine Calls.mono (Calls.gr0 (of_no _ _ _ h)) ?_
      rintro e w' ⟨rfl, g, rfl⟩
      have hgl := g.le
      go_wp2_with fail
      refine Calls.named (fun W hW => ?_)
      have hBW : Below w.heap.size w W := by rw [hW]; exact (by repeat (first | exact Below.refl _ _ | assumption | (refine Below.setCell ?_ (by (first | omega | (simp; done) | (simp; omega) | (simp at *; omega))) _) | (refine Below.alloc ?_ (by (first | omega | (simp; done) | (simp; omega) | (simp at *; omega))) _) | (refine Below.drew ?_) | (refine Gr.into _ ?_ (by (first | omega | (simp; done) | (simp; omega) | (simp at *; omega))))))
      have all : RowAt W (kall) 23 [.int .i64 0, .string ⟨#[]⟩] := by rw [hW]; exact (by repeat (first | assumption | exact RowAt.new_at _ _ _ _ (by (first | omega | (simp; done) | (simp; omega) | (simp at *; omega))) | (refine RowAt.alloc ?_ _) | (refine RowAt.gr ?_ _) | (refine RowAt.setOther ?_ _ _ (by (first | omega | (simp; done) | (simp; omega) | (simp at *; omega)))) | (refine RowAt.drew ?_)))
      have x : RowAt W (g.world.heap.size) 23 [.int .i64 0, .string ⟨#[]⟩] := by rw [hW]; exact (by repeat (first | assumption | exact RowAt.new_at _ _ _ _ (by (first | omega | (simp; done) | (simp; omega) | (simp at *; omega))) | (refine RowAt.alloc ?_ _) | (refine RowAt.gr ?_ _) | (refine RowAt.setOther ?_ _ _ (by (first | omega | (simp; done) | (simp; omega) | (simp at *; omega)))) | (refine RowAt.drew ?_)))
      clear hW
      obtain ⟨allc0, allc1, allf0, allf1, alll⟩ := all.two
      obtain ⟨xc0, xc1, xf0, xf1, xl⟩ := x.two
      generalize g.world.heap.size = kx at *
      clear g
      with_reducible refine Calls.mono (Calls.gr0 (of_no _ _ _ h)) ?_
      rintro e w' ⟨rfl, g, rfl⟩
      have hgl := g.le
      go_wp2_with fail
      all_goals (go_ret; exact ⟨by first | rfl | (simp; omega), (by repeat (first | exact Below.refl _ _ | assumption | (refine Below.setCell ?_ (by (first | omega | (simp; done) | (simp; omega) | (simp at *; omega))) _) | (refine Below.alloc ?_ (by (first | omega | (simp; done) | (simp; omega) | (simp at *; omega))) _) | (refine Below.drew ?_) | (refine Gr.into _ ?_ (by (first | omega | (simp; done) | (simp; omega) | (simp at *; omega))))))⟩)

theorem U64s.back {w : World} {g : Gr w} {v : Value} {zs : List Nat} (h : U64s w.heap.size g.world v zs) : U64s w.heap.size w v zs := by
  obtain ⟨h1, h2, h3⟩ := h
  refine ⟨h1, h2, ?_⟩
  rcases h3 with h3 | ⟨a, off, cap, e, h4, h5, h6⟩
  · exact .inl h3
  · exact .inr ⟨a, off, cap, e, h4, h5, fun i hi => by rw [← h6 i hi]; exact (g.cell? ⟨a, off + i, none⟩ h4).symm⟩

set_option maxRecDepth 100000 in
set_option maxHeartbeats 1000000 in
theorem parts_yes (b : Nat) (at_ : Int) (v : Value) (zs : List Nat) (w : World) (h : isBitsB b = true) (hz : U64s w.heap.size w v zs) :
    Calls Try.prog 5 #[.int .i64 b, v, .int .i64 at_] w fun e w' => e = .returned (.bool true) ∧ Below w.heap.size w w' := by
  go_enter Try.func5, Try.ntmps5
  go_wp2_with (first
    | (go_at_call 8; (first | (with_reducible refine Calls.mono (Calls.gr (shown_any _)) ?_) | (refine Calls.mono (Calls.gr0 (shown_any _)) ?_)); rintro e w' ⟨rfl, g, rfl⟩; have hgl := g.le; (try simp only [World.size_alloc] at hgl); (try simp only [World.size_setCell] at hgl)))
  refine Calls.mono (few_any _ _ _ _ (hz.gr g (Nat.le_refl _))) ?_
  rintro e w' ⟨⟨u, rfl, hu⟩, rfl⟩
  have hlen : (zs.take 100).length ≤ 100 := List.length_take_le _ _
  generalize zs.take 100 = xs at *
  obtain ⟨k, hk, hkl⟩ : ∃ k : Nat, max 0 (min at_ (xs.length : Int)) = (k : Int) ∧ k ≤ xs.length := ⟨(max 0 (min at_ (xs.length : Int))).toNat, by omega, by omega⟩
  have hu0 : U64s w.heap.size w u xs := hu.back
  clear hu hz
  obtain ⟨SA, hSA⟩ : ∃ S : ByteArray, S = ⟨(regsOf b xs).toArray⟩ := ⟨_, rfl⟩
  obtain ⟨SX, hSX⟩ : ∃ S : ByteArray, S = ⟨(regsOf b (xs.take k)).toArray⟩ := ⟨_, rfl⟩
  obtain ⟨SY, hSY⟩ : ∃ S : ByteArray, S = ⟨(regsOf b (xs.drop k)).toArray⟩ := ⟨_, rfl⟩
  have hlt := hu0.1
  have h8 : b ≤ 8 := by have := isBits_bd h; omega
  have cA : ∀ W, Below w.heap.size w W → Calls Try.prog 10 #[.int .i64 b, u] W fun e w' => e = hllRes b SA 0 ∧ Below W.heap.size W w' := fun W hb => by
    rw [hSA]; exact of_calls h (hu0.at_ hb)
  have cX : ∀ u', U64s w.heap.size w u' (xs.take k) → ∀ W, Below w.heap.size w W → Calls Try.prog 10 #[.int .i64 b, u'] W fun e w' => e = hllRes b SX 0 ∧ Below W.heap.size W w' := fun u' hu' W hb => by
    rw [hSX]; exact of_calls h (hu'.at_ hb)
  have cY : ∀ u', U64s w.heap.size w u' (xs.drop k) → ∀ W, Below w.heap.size w W → Calls Try.prog 10 #[.int .i64 b, u'] W fun e w' => e = hllRes b SY 0 ∧ Below W.heap.size W w' := fun u' hu' W hb => by
    rw [hSY]; exact of_calls h (hu'.at_ hb)
  have m1 : ∀ W, Calls Try.prog 21 #[.agg #[.int .i64 b, .string SX], .agg #[.int .i64 b, .string SY]] W fun e w' => e = hllRes b SA 0 ∧ Below W.heap.size W w' := fun W => by
    have := merge_calls h (xs.take k) (xs.drop k) W
    rw [List.take_append_drop] at this
    rw [hSA, hSX, hSY]; exact this
  have m2 : ∀ W, Calls Try.prog 21 #[.agg #[.int .i64 b, .string SY], .agg #[.int .i64 b, .string SX]] W fun e w' => e = hllRes b SA 0 ∧ Below W.heap.size W w' := fun W => by
    have := merge_calls h (xs.drop k) (xs.take k) W
    rw [regsOf_mem h8 (xs := xs.drop k ++ xs.take k) (ys := xs) (fun n => by rw [List.mem_append, or_comm, ← List.mem_append, List.take_append_drop])] at this
    rw [hSA, hSX, hSY]; exact this
  have m3 : ∀ W, Calls Try.prog 21 #[.agg #[.int .i64 b, .string SA], .agg #[.int .i64 b, .string SA]] W fun e w' => e = hllRes b SA 0 ∧ Below W.heap.size W w' := fun W => by
    have := merge_calls h xs xs W
    rw [regsOf_mem h8 (xs := xs ++ xs) (ys := xs) (fun n => by simp)] at this
    rw [hSA]; exact this
  clear hSA hSX hSY hlt h8
  obtain ⟨-, -, ⟨a, rfl, rfl⟩ | ⟨a, off, cap, rfl, h3, hc, h4⟩⟩ := id hu0
  · obtain rfl : k = 0 := by simpa using hkl
    have hz0 : max 0 (min at_ 0) = 0 := by omega
    rcases a with _ | a
    all_goals
      have h1 := cX _ hu0
      have h2 := cY _ hu0
      go_wp2_with fail
      with_reducible refine Calls.mono (Calls.gr (cA _ g.below)) ?_
      rintro e w' ⟨rfl, g, rfl⟩
      have hgl := g.le
      go_wp2_with fail
      refine Calls.named (fun W hW => ?_)
      have hBW : Below w.heap.size w W := by rw [hW]; exact (by repeat (first | exact Below.refl _ _ | assumption | (refine Below.setCell ?_ (by (first | omega | (simp; done) | (simp; omega) | (simp at *; omega))) _) | (refine Below.alloc ?_ (by (first | omega | (simp; done) | (simp; omega) | (simp at *; omega))) _) | (refine Below.drew ?_) | (refine Gr.into _ ?_ (by (first | omega | (simp; done) | (simp; omega) | (simp at *; omega))))))
      have all : RowAt W (g.world.heap.size) 23 [.int .i64 b, .string SA] := by rw [hW]; exact (by repeat (first | assumption | exact RowAt.new_at _ _ _ _ (by (first | omega | (simp; done) | (simp; omega) | (simp at *; omega))) | (refine RowAt.alloc ?_ _) | (refine RowAt.gr ?_ _) | (refine RowAt.setOther ?_ _ _ (by (first | omega | (simp; done) | (simp; omega) | (simp at *; omega)))) | (refine RowAt.drew ?_)))
      clear hW
      obtain ⟨allc0, allc1, allf0, allf1, alll⟩ := all.two
      generalize g.world.heap.size = kall at *
      clear g
      with_reducible refine Calls.mono (Calls.gr0 (h1 _ hBW)) ?_
      rintro e w' ⟨rfl, g, rfl⟩
      have hgl := g.le
      go_wp2_with fail
      refine Calls.named (fun W hW => ?_)
      have hBW : Below w.heap.size w W := by rw [hW]; exact (by repeat (first | exact Below.refl _ _ | assumption | (refine Below.setCell ?_ (by (first | omega | (simp; done) | (simp; omega) | (simp at *; omega))) _) | (refine Below.alloc ?_ (by (first | omega | (simp; done) | (simp; omega) | (simp at *; omega))) _) | (refine Below.drew ?_) | (refine Gr.into _ ?_ (by (first | omega | (simp; done) | (simp; omega) | (simp at *; omega))))))
      have all : RowAt W (kall) 23 [.int .i64 b, .string SA] := by rw [hW]; exact (by repeat (first | assumption | exact RowAt.new_at _ _ _ _ (by (first | omega | (simp; done) | (simp; omega) | (simp at *; omega))) | (refine RowAt.alloc ?_ _) | (refine RowAt.gr ?_ _) | (refine RowAt.setOther ?_ _ _ (by (first | omega | (simp; done) | (simp; omega) | (simp at *; omega)))) | (refine RowAt.drew ?_)))
      have x : RowAt W (g.world.heap.size) 23 [.int .i64 b, .string SX] := by rw [hW]; exact (by repeat (first | assumption | exact RowAt.new_at _ _ _ _ (by (first | omega | (simp; done) | (simp; omega) | (simp at *; omega))) | (refine RowAt.alloc ?_ _) | (refine RowAt.gr ?_ _) | (refine RowAt.setOther ?_ _ _ (by (first | omega | (simp; done) | (simp; omega) | (simp at *; omega)))) | (refine RowAt.drew ?_)))
      clear hW
      obtain ⟨allc0, allc1, allf0, allf1, alll⟩ := all.two
      obtain ⟨xc0, xc1, xf0, xf1, xl⟩ := x.two
      generalize g.world.heap.size = kx at *
      clear g
      with_reducible refine Calls.mono (Calls.gr0 (h2 _ hBW)) ?_
      rintro e w' ⟨rfl, g, rfl⟩
      have hgl := g.le
      go_wp2_with fail
      refine Calls.named (fun W hW => ?_)
      have hBW : Below w.heap.size w W := by rw [hW]; exact (by repeat (first | exact Below.refl _ _ | assumption | (refine Below.setCell ?_ (by (first | omega | (simp; done) | (simp; omega) | (simp at *; omega))) _) | (refine Below.alloc ?_ (by (first | omega | (simp; done) | (simp; omega) | (simp at *; omega))) _) | (refine Below.drew ?_) | (refine Gr.into _ ?_ (by (first | omega | (simp; done) | (simp; omega) | (simp at *; omega))))))
      have all : RowAt W (kall) 23 [.int .i64 b, .string SA] := by rw [hW]; exact (by repeat (first | assumption | exact RowAt.new_at _ _ _ _ (by (first | omega | (simp; done) | (simp; omega) | (simp at *; omega))) | (refine RowAt.alloc ?_ _) | (refine RowAt.gr ?_ _) | (refine RowAt.setOther ?_ _ _ (by (first | omega | (simp; done) | (simp; omega) | (simp at *; omega)))) | (refine RowAt.drew ?_)))
      have x : RowAt W (kx) 23 [.int .i64 b, .string SX] := by rw [hW]; exact (by repeat (first | assumption | exact RowAt.new_at _ _ _ _ (by (first | omega | (simp; done) | (simp; omega) | (simp at *; omega))) | (refine RowAt.alloc ?_ _) | (refine RowAt.gr ?_ _) | (refine RowAt.setOther ?_ _ _ (by (first | omega | (simp; done) | (simp; omega) | (simp at *; omega)))) | (refine RowAt.drew ?_)))
      have y : RowAt W (g.world.heap.size) 23 [.int .i64 b, .string SY] := by rw [hW]; exact (by repeat (first | assumption | exact RowAt.new_at _ _ _ _ (by (first | omega | (simp; done) | (simp; omega) | (simp at *; omega))) | (refine RowAt.alloc ?_ _) | (refine RowAt.gr ?_ _) | (refine RowAt.setOther ?_ _ _ (by (first | omega | (simp; done) | (simp; omega) | (simp at *; omega)))) | (refine RowAt.drew ?_)))
      clear hW
      obtain ⟨allc0, allc1, allf0, allf1, alll⟩ := all.two
      obtain ⟨xc0, xc1, xf0, xf1, xl⟩ := x.two
      obtain ⟨yc0, yc1, yf0, yf1, yl⟩ := y.two
      generalize g.world.heap.size = ky at *
      clear g
      with_reducible refine Calls.mono (Calls.gr0 (m1 _)) ?_
      rintro e w' ⟨rfl, g, rfl⟩
      have hgl := g.le
      go_wp2_with fail
      refine Calls.named (fun W hW => ?_)
      have hBW : Below w.heap.size w W := by rw [hW]; exact (by repeat (first | exact Below.refl _ _ | assumption | (refine Below.setCell ?_ (by (first | omega | (simp; done) | (simp; omega) | (simp at *; omega))) _) | (refine Below.alloc ?_ (by (first | omega | (simp; done) | (simp; omega) | (simp at *; omega))) _) | (refine Below.drew ?_) | (refine Gr.into _ ?_ (by (first | omega | (simp; done) | (simp; omega) | (simp at *; omega))))))
      have all : RowAt W (kall) 23 [.int .i64 b, .string SA] := by rw [hW]; exact (by repeat (first | assumption | exact RowAt.new_at _ _ _ _ (by (first | omega | (simp; done) | (simp; omega) | (simp at *; omega))) | (refine RowAt.alloc ?_ _) | (refine RowAt.gr ?_ _) | (refine RowAt.setOther ?_ _ _ (by (first | omega | (simp; done) | (simp; omega) | (simp at *; omega)))) | (refine RowAt.drew ?_)))
      have x : RowAt W (kx) 23 [.int .i64 b, .string SX] := by rw [hW]; exact (by repeat (first | assumption | exact RowAt.new_at _ _ _ _ (by (first | omega | (simp; done) | (simp; omega) | (simp at *; omega))) | (refine RowAt.alloc ?_ _) | (refine RowAt.gr ?_ _) | (refine RowAt.setOther ?_ _ _ (by (first | omega | (simp; done) | (simp; omega) | (simp at *; omega)))) | (refine RowAt.drew ?_)))
      have y : RowAt W (ky) 23 [.int .i64 b, .string SY] := by rw [hW]; exact (by repeat (first | assumption | exact RowAt.new_at _ _ _ _ (by (first | omega | (simp; done) | (simp; omega) | (simp at *; omega))) | (refine RowAt.alloc ?_ _) | (refine RowAt.gr ?_ _) | (refine RowAt.setOther ?_ _ _ (by (first | omega | (simp; done) | (simp; omega) | (simp at *; omega)))) | (refine RowAt.drew ?_)))
      have p : RowAt W (g.world.heap.size) 23 [.int .i64 b, .string SA] := by rw [hW]; exact (by repeat (first | assumption | exact RowAt.new_at _ _ _ _ (by (first | omega | (simp; done) | (simp; omega) | (simp at *; omega))) | (refine RowAt.alloc ?_ _) | (refine RowAt.gr ?_ _) | (refine RowAt.setOther ?_ _ _ (by (first | omega | (simp; done) | (simp; omega) | (simp at *; omega)))) | (refine RowAt.drew ?_)))
      clear hW
      obtain ⟨allc0, allc1, allf0, allf1, alll⟩ := all.two
      obtain ⟨xc0, xc1, xf0, xf1, xl⟩ := x.two
      obtain ⟨yc0, yc1, yf0, yf1, yl⟩ := y.two
      obtain ⟨pc0, pc1, pf0, pf1, pl⟩ := p.two
      generalize g.world.heap.size = kp at *
      clear g
      with_reducible refine Calls.mono (Calls.gr0 (m2 _)) ?_
      rintro e w' ⟨rfl, g, rfl⟩
      have hgl := g.le
      go_wp2_with fail
      refine Calls.named (fun W hW => ?_)
      have hBW : Below w.heap.size w W := by rw [hW]; exact (by repeat (first | exact Below.refl _ _ | assumption | (refine Below.setCell ?_ (by (first | omega | (simp; done) | (simp; omega) | (simp at *; omega))) _) | (refine Below.alloc ?_ (by (first | omega | (simp; done) | (simp; omega) | (simp at *; omega))) _) | (refine Below.drew ?_) | (refine Gr.into _ ?_ (by (first | omega | (simp; done) | (simp; omega) | (simp at *; omega))))))
      have all : RowAt W (kall) 23 [.int .i64 b, .string SA] := by rw [hW]; exact (by repeat (first | assumption | exact RowAt.new_at _ _ _ _ (by (first | omega | (simp; done) | (simp; omega) | (simp at *; omega))) | (refine RowAt.alloc ?_ _) | (refine RowAt.gr ?_ _) | (refine RowAt.setOther ?_ _ _ (by (first | omega | (simp; done) | (simp; omega) | (simp at *; omega)))) | (refine RowAt.drew ?_)))
      have x : RowAt W (kx) 23 [.int .i64 b, .string SX] := by rw [hW]; exact (by repeat (first | assumption | exact RowAt.new_at _ _ _ _ (by (first | omega | (simp; done) | (simp; omega) | (simp at *; omega))) | (refine RowAt.alloc ?_ _) | (refine RowAt.gr ?_ _) | (refine RowAt.setOther ?_ _ _ (by (first | omega | (simp; done) | (simp; omega) | (simp at *; omega)))) | (refine RowAt.drew ?_)))
      have y : RowAt W (ky) 23 [.int .i64 b, .string SY] := by rw [hW]; exact (by repeat (first | assumption | exact RowAt.new_at _ _ _ _ (by (first | omega | (simp; done) | (simp; omega) | (simp at *; omega))) | (refine RowAt.alloc ?_ _) | (refine RowAt.gr ?_ _) | (refine RowAt.setOther ?_ _ _ (by (first | omega | (simp; done) | (simp; omega) | (simp at *; omega)))) | (refine RowAt.drew ?_)))
      have p : RowAt W (kp) 23 [.int .i64 b, .string SA] := by rw [hW]; exact (by repeat (first | assumption | exact RowAt.new_at _ _ _ _ (by (first | omega | (simp; done) | (simp; omega) | (simp at *; omega))) | (refine RowAt.alloc ?_ _) | (refine RowAt.gr ?_ _) | (refine RowAt.setOther ?_ _ _ (by (first | omega | (simp; done) | (simp; omega) | (simp at *; omega)))) | (refine RowAt.drew ?_)))
      have q : RowAt W (g.world.heap.size) 23 [.int .i64 b, .string SA] := by rw [hW]; exact (by repeat (first | assumption | exact RowAt.new_at _ _ _ _ (by (first | omega | (simp; done) | (simp; omega) | (simp at *; omega))) | (refine RowAt.alloc ?_ _) | (refine RowAt.gr ?_ _) | (refine RowAt.setOther ?_ _ _ (by (first | omega | (simp; done) | (simp; omega) | (simp at *; omega)))) | (refine RowAt.drew ?_)))
      clear hW
      obtain ⟨allc0, allc1, allf0, allf1, alll⟩ := all.two
      obtain ⟨xc0, xc1, xf0, xf1, xl⟩ := x.two
      obtain ⟨yc0, yc1, yf0, yf1, yl⟩ := y.two
      obtain ⟨pc0, pc1, pf0, pf1, pl⟩ := p.two
      obtain ⟨qc0, qc1, qf0, qf1, ql⟩ := q.two
      generalize g.world.heap.size = kq at *
      clear g
      with_reducible refine Calls.mono (Calls.gr0 (m3 _)) ?_
      rintro e w' ⟨rfl, g, rfl⟩
      have hgl := g.le
      go_wp2_with fail
      go_ret
      exact ⟨rfl, (by repeat (first | exact Below.refl _ _ | assumption | (refine Below.setCell ?_ (by (first | omega | (simp; done) | (simp; omega) | (simp at *; omega))) _) | (refine Below.alloc ?_ (by (first | omega | (simp; done) | (simp; omega) | (simp at *; omega))) _) | (refine Below.drew ?_) | (refine Gr.into _ ?_ (by (first | omega | (simp; done) | (simp; omega) | (simp at *; omega))))))⟩
  · have h1 := cX _ (hu0.cutAt hc k hkl)
    by_cases hkc : k = cap
    · have hx : xs.length = cap := by omega
      subst hkc
      have h2 := cY (.slice (some ⟨a, off, none⟩) 0 0) ⟨by simp [← hx], by simp; omega, .inl ⟨_, rfl, by simp [← hx]⟩⟩
      rw [hx] at cA hk
      clear cX cY h4 hu0
      go_wp2_with fail
      with_reducible refine Calls.mono (Calls.gr (cA _ g.below)) ?_
      rintro e w' ⟨rfl, g, rfl⟩
      have hgl := g.le
      go_wp2_with fail
      refine Calls.named (fun W hW => ?_)
      have hBW : Below w.heap.size w W := by rw [hW]; exact (by repeat (first | exact Below.refl _ _ | assumption | (refine Below.setCell ?_ (by (first | omega | (simp; done) | (simp; omega) | (simp at *; omega))) _) | (refine Below.alloc ?_ (by (first | omega | (simp; done) | (simp; omega) | (simp at *; omega))) _) | (refine Below.drew ?_) | (refine Gr.into _ ?_ (by (first | omega | (simp; done) | (simp; omega) | (simp at *; omega))))))
      have all : RowAt W (g.world.heap.size) 23 [.int .i64 b, .string SA] := by rw [hW]; exact (by repeat (first | assumption | exact RowAt.new_at _ _ _ _ (by (first | omega | (simp; done) | (simp; omega) | (simp at *; omega))) | (refine RowAt.alloc ?_ _) | (refine RowAt.gr ?_ _) | (refine RowAt.setOther ?_ _ _ (by (first | omega | (simp; done) | (simp; omega) | (simp at *; omega)))) | (refine RowAt.drew ?_)))
      clear hW
      obtain ⟨allc0, allc1, allf0, allf1, alll⟩ := all.two
      generalize g.world.heap.size = kall at *
      clear g
      with_reducible refine Calls.mono (Calls.gr0 (h1 _ hBW)) ?_
      rintro e w' ⟨rfl, g, rfl⟩
      have hgl := g.le
      go_wp2_with fail
      refine Calls.named (fun W hW => ?_)
      have hBW : Below w.heap.size w W := by rw [hW]; exact (by repeat (first | exact Below.refl _ _ | assumption | (refine Below.setCell ?_ (by (first | omega | (simp; done) | (simp; omega) | (simp at *; omega))) _) | (refine Below.alloc ?_ (by (first | omega | (simp; done) | (simp; omega) | (simp at *; omega))) _) | (refine Below.drew ?_) | (refine Gr.into _ ?_ (by (first | omega | (simp; done) | (simp; omega) | (simp at *; omega))))))
      have all : RowAt W (kall) 23 [.int .i64 b, .string SA] := by rw [hW]; exact (by repeat (first | assumption | exact RowAt.new_at _ _ _ _ (by (first | omega | (simp; done) | (simp; omega) | (simp at *; omega))) | (refine RowAt.alloc ?_ _) | (refine RowAt.gr ?_ _) | (refine RowAt.setOther ?_ _ _ (by (first | omega | (simp; done) | (simp; omega) | (simp at *; omega)))) | (refine RowAt.drew ?_)))
      have x : RowAt W (g.world.heap.size) 23 [.int .i64 b, .string SX] := by rw [hW]; exact (by repeat (first | assumption | exact RowAt.new_at _ _ _ _ (by (first | omega | (simp; done) | (simp; omega) | (simp at *; omega))) | (refine RowAt.alloc ?_ _) | (refine RowAt.gr ?_ _) | (refine RowAt.setOther ?_ _ _ (by (first | omega | (simp; done) | (simp; omega) | (simp at *; omega)))) | (refine RowAt.drew ?_)))
      clear hW
      obtain ⟨allc0, allc1, allf0, allf1, alll⟩ := all.two
      obtain ⟨xc0, xc1, xf0, xf1, xl⟩ := x.two
      generalize g.world.heap.size = kx at *
      clear g
      with_reducible refine Calls.mono (Calls.gr0 (h2 _ hBW)) ?_
      rintro e w' ⟨rfl, g, rfl⟩
      have hgl := g.le
      go_wp2_with fail
      refine Calls.named (fun W hW => ?_)
      have hBW : Below w.heap.size w W := by rw [hW]; exact (by repeat (first | exact Below.refl _ _ | assumption | (refine Below.setCell ?_ (by (first | omega | (simp; done) | (simp; omega) | (simp at *; omega))) _) | (refine Below.alloc ?_ (by (first | omega | (simp; done) | (simp; omega) | (simp at *; omega))) _) | (refine Below.drew ?_) | (refine Gr.into _ ?_ (by (first | omega | (simp; done) | (simp; omega) | (simp at *; omega))))))
      have all : RowAt W (kall) 23 [.int .i64 b, .string SA] := by rw [hW]; exact (by repeat (first | assumption | exact RowAt.new_at _ _ _ _ (by (first | omega | (simp; done) | (simp; omega) | (simp at *; omega))) | (refine RowAt.alloc ?_ _) | (refine RowAt.gr ?_ _) | (refine RowAt.setOther ?_ _ _ (by (first | omega | (simp; done) | (simp; omega) | (simp at *; omega)))) | (refine RowAt.drew ?_)))
      have x : RowAt W (kx) 23 [.int .i64 b, .string SX] := by rw [hW]; exact (by repeat (first | assumption | exact RowAt.new_at _ _ _ _ (by (first | omega | (simp; done) | (simp; omega) | (simp at *; omega))) | (refine RowAt.alloc ?_ _) | (refine RowAt.gr ?_ _) | (refine RowAt.setOther ?_ _ _ (by (first | omega | (simp; done) | (simp; omega) | (simp at *; omega)))) | (refine RowAt.drew ?_)))
      have y : RowAt W (g.world.heap.size) 23 [.int .i64 b, .string SY] := by rw [hW]; exact (by repeat (first | assumption | exact RowAt.new_at _ _ _ _ (by (first | omega | (simp; done) | (simp; omega) | (simp at *; omega))) | (refine RowAt.alloc ?_ _) | (refine RowAt.gr ?_ _) | (refine RowAt.setOther ?_ _ _ (by (first | omega | (simp; done) | (simp; omega) | (simp at *; omega)))) | (refine RowAt.drew ?_)))
      clear hW
      obtain ⟨allc0, allc1, allf0, allf1, alll⟩ := all.two
      obtain ⟨xc0, xc1, xf0, xf1, xl⟩ := x.two
      obtain ⟨yc0, yc1, yf0, yf1, yl⟩ := y.two
      generalize g.world.heap.size = ky at *
      clear g
      with_reducible refine Calls.mono (Calls.gr0 (m1 _)) ?_
      rintro e w' ⟨rfl, g, rfl⟩
      have hgl := g.le
      go_wp2_with fail
      refine Calls.named (fun W hW => ?_)
      have hBW : Below w.heap.size w W := by rw [hW]; exact (by repeat (first | exact Below.refl _ _ | assumption | (refine Below.setCell ?_ (by (first | omega | (simp; done) | (simp; omega) | (simp at *; omega))) _) | (refine Below.alloc ?_ (by (first | omega | (simp; done) | (simp; omega) | (simp at *; omega))) _) | (refine Below.drew ?_) | (refine Gr.into _ ?_ (by (first | omega | (simp; done) | (simp; omega) | (simp at *; omega))))))
      have all : RowAt W (kall) 23 [.int .i64 b, .string SA] := by rw [hW]; exact (by repeat (first | assumption | exact RowAt.new_at _ _ _ _ (by (first | omega | (simp; done) | (simp; omega) | (simp at *; omega))) | (refine RowAt.alloc ?_ _) | (refine RowAt.gr ?_ _) | (refine RowAt.setOther ?_ _ _ (by (first | omega | (simp; done) | (simp; omega) | (simp at *; omega)))) | (refine RowAt.drew ?_)))
      have x : RowAt W (kx) 23 [.int .i64 b, .string SX] := by rw [hW]; exact (by repeat (first | assumption | exact RowAt.new_at _ _ _ _ (by (first | omega | (simp; done) | (simp; omega) | (simp at *; omega))) | (refine RowAt.alloc ?_ _) | (refine RowAt.gr ?_ _) | (refine RowAt.setOther ?_ _ _ (by (first | omega | (simp; done) | (simp; omega) | (simp at *; omega)))) | (refine RowAt.drew ?_)))
      have y : RowAt W (ky) 23 [.int .i64 b, .string SY] := by rw [hW]; exact (by repeat (first | assumption | exact RowAt.new_at _ _ _ _ (by (first | omega | (simp; done) | (simp; omega) | (simp at *; omega))) | (refine RowAt.alloc ?_ _) | (refine RowAt.gr ?_ _) | (refine RowAt.setOther ?_ _ _ (by (first | omega | (simp; done) | (simp; omega) | (simp at *; omega)))) | (refine RowAt.drew ?_)))
      have p : RowAt W (g.world.heap.size) 23 [.int .i64 b, .string SA] := by rw [hW]; exact (by repeat (first | assumption | exact RowAt.new_at _ _ _ _ (by (first | omega | (simp; done) | (simp; omega) | (simp at *; omega))) | (refine RowAt.alloc ?_ _) | (refine RowAt.gr ?_ _) | (refine RowAt.setOther ?_ _ _ (by (first | omega | (simp; done) | (simp; omega) | (simp at *; omega)))) | (refine RowAt.drew ?_)))
      clear hW
      obtain ⟨allc0, allc1, allf0, allf1, alll⟩ := all.two
      obtain ⟨xc0, xc1, xf0, xf1, xl⟩ := x.two
      obtain ⟨yc0, yc1, yf0, yf1, yl⟩ := y.two
      obtain ⟨pc0, pc1, pf0, pf1, pl⟩ := p.two
      generalize g.world.heap.size = kp at *
      clear g
      with_reducible refine Calls.mono (Calls.gr0 (m2 _)) ?_
      rintro e w' ⟨rfl, g, rfl⟩
      have hgl := g.le
      go_wp2_with fail
      refine Calls.named (fun W hW => ?_)
      have hBW : Below w.heap.size w W := by rw [hW]; exact (by repeat (first | exact Below.refl _ _ | assumption | (refine Below.setCell ?_ (by (first | omega | (simp; done) | (simp; omega) | (simp at *; omega))) _) | (refine Below.alloc ?_ (by (first | omega | (simp; done) | (simp; omega) | (simp at *; omega))) _) | (refine Below.drew ?_) | (refine Gr.into _ ?_ (by (first | omega | (simp; done) | (simp; omega) | (simp at *; omega))))))
      have all : RowAt W (kall) 23 [.int .i64 b, .string SA] := by rw [hW]; exact (by repeat (first | assumption | exact RowAt.new_at _ _ _ _ (by (first | omega | (simp; done) | (simp; omega) | (simp at *; omega))) | (refine RowAt.alloc ?_ _) | (refine RowAt.gr ?_ _) | (refine RowAt.setOther ?_ _ _ (by (first | omega | (simp; done) | (simp; omega) | (simp at *; omega)))) | (refine RowAt.drew ?_)))
      have x : RowAt W (kx) 23 [.int .i64 b, .string SX] := by rw [hW]; exact (by repeat (first | assumption | exact RowAt.new_at _ _ _ _ (by (first | omega | (simp; done) | (simp; omega) | (simp at *; omega))) | (refine RowAt.alloc ?_ _) | (refine RowAt.gr ?_ _) | (refine RowAt.setOther ?_ _ _ (by (first | omega | (simp; done) | (simp; omega) | (simp at *; omega)))) | (refine RowAt.drew ?_)))
      have y : RowAt W (ky) 23 [.int .i64 b, .string SY] := by rw [hW]; exact (by repeat (first | assumption | exact RowAt.new_at _ _ _ _ (by (first | omega | (simp; done) | (simp; omega) | (simp at *; omega))) | (refine RowAt.alloc ?_ _) | (refine RowAt.gr ?_ _) | (refine RowAt.setOther ?_ _ _ (by (first | omega | (simp; done) | (simp; omega) | (simp at *; omega)))) | (refine RowAt.drew ?_)))
      have p : RowAt W (kp) 23 [.int .i64 b, .string SA] := by rw [hW]; exact (by repeat (first | assumption | exact RowAt.new_at _ _ _ _ (by (first | omega | (simp; done) | (simp; omega) | (simp at *; omega))) | (refine RowAt.alloc ?_ _) | (refine RowAt.gr ?_ _) | (refine RowAt.setOther ?_ _ _ (by (first | omega | (simp; done) | (simp; omega) | (simp at *; omega)))) | (refine RowAt.drew ?_)))
      have q : RowAt W (g.world.heap.size) 23 [.int .i64 b, .string SA] := by rw [hW]; exact (by repeat (first | assumption | exact RowAt.new_at _ _ _ _ (by (first | omega | (simp; done) | (simp; omega) | (simp at *; omega))) | (refine RowAt.alloc ?_ _) | (refine RowAt.gr ?_ _) | (refine RowAt.setOther ?_ _ _ (by (first | omega | (simp; done) | (simp; omega) | (simp at *; omega)))) | (refine RowAt.drew ?_)))
      clear hW
      obtain ⟨allc0, allc1, allf0, allf1, alll⟩ := all.two
      obtain ⟨xc0, xc1, xf0, xf1, xl⟩ := x.two
      obtain ⟨yc0, yc1, yf0, yf1, yl⟩ := y.two
      obtain ⟨pc0, pc1, pf0, pf1, pl⟩ := p.two
      obtain ⟨qc0, qc1, qf0, qf1, ql⟩ := q.two
      generalize g.world.heap.size = kq at *
      clear g
      with_reducible refine Calls.mono (Calls.gr0 (m3 _)) ?_
      rintro e w' ⟨rfl, g, rfl⟩
      have hgl := g.le
      go_wp2_with fail
      go_ret
      exact ⟨rfl, (by repeat (first | exact Below.refl _ _ | assumption | (refine Below.setCell ?_ (by (first | omega | (simp; done) | (simp; omega) | (simp at *; omega))) _) | (refine Below.alloc ?_ (by (first | omega | (simp; done) | (simp; omega) | (simp at *; omega))) _) | (refine Below.drew ?_) | (refine Gr.into _ ?_ (by (first | omega | (simp; done) | (simp; omega) | (simp at *; omega))))))⟩
    · have h2 := cY _ (hu0.restAt hc k hkl (by omega))
      clear cX cY h4 hu0
      go_wp2_with fail
      with_reducible refine Calls.mono (Calls.gr (cA _ g.below)) ?_
      rintro e w' ⟨rfl, g, rfl⟩
      have hgl := g.le
      go_wp2_with fail
      refine Calls.named (fun W hW => ?_)
      have hBW : Below w.heap.size w W := by rw [hW]; exact (by repeat (first | exact Below.refl _ _ | assumption | (refine Below.setCell ?_ (by (first | omega | (simp; done) | (simp; omega) | (simp at *; omega))) _) | (refine Below.alloc ?_ (by (first | omega | (simp; done) | (simp; omega) | (simp at *; omega))) _) | (refine Below.drew ?_) | (refine Gr.into _ ?_ (by (first | omega | (simp; done) | (simp; omega) | (simp at *; omega))))))
      have all : RowAt W (g.world.heap.size) 23 [.int .i64 b, .string SA] := by rw [hW]; exact (by repeat (first | assumption | exact RowAt.new_at _ _ _ _ (by (first | omega | (simp; done) | (simp; omega) | (simp at *; omega))) | (refine RowAt.alloc ?_ _) | (refine RowAt.gr ?_ _) | (refine RowAt.setOther ?_ _ _ (by (first | omega | (simp; done) | (simp; omega) | (simp at *; omega)))) | (refine RowAt.drew ?_)))
      clear hW
      obtain ⟨allc0, allc1, allf0, allf1, alll⟩ := all.two
      generalize g.world.heap.size = kall at *
      clear g
      with_reducible refine Calls.mono (Calls.gr0 (h1 _ hBW)) ?_
      rintro e w' ⟨rfl, g, rfl⟩
      have hgl := g.le
      go_wp2_with fail
      refine Calls.named (fun W hW => ?_)
      have hBW : Below w.heap.size w W := by rw [hW]; exact (by repeat (first | exact Below.refl _ _ | assumption | (refine Below.setCell ?_ (by (first | omega | (simp; done) | (simp; omega) | (simp at *; omega))) _) | (refine Below.alloc ?_ (by (first | omega | (simp; done) | (simp; omega) | (simp at *; omega))) _) | (refine Below.drew ?_) | (refine Gr.into _ ?_ (by (first | omega | (simp; done) | (simp; omega) | (simp at *; omega))))))
      have all : RowAt W (kall) 23 [.int .i64 b, .string SA] := by rw [hW]; exact (by repeat (first | assumption | exact RowAt.new_at _ _ _ _ (by (first | omega | (simp; done) | (simp; omega) | (simp at *; omega))) | (refine RowAt.alloc ?_ _) | (refine RowAt.gr ?_ _) | (refine RowAt.setOther ?_ _ _ (by (first | omega | (simp; done) | (simp; omega) | (simp at *; omega)))) | (refine RowAt.drew ?_)))
      have x : RowAt W (g.world.heap.size) 23 [.int .i64 b, .string SX] := by rw [hW]; exact (by repeat (first | assumption | exact RowAt.new_at _ _ _ _ (by (first | omega | (simp; done) | (simp; omega) | (simp at *; omega))) | (refine RowAt.alloc ?_ _) | (refine RowAt.gr ?_ _) | (refine RowAt.setOther ?_ _ _ (by (first | omega | (simp; done) | (simp; omega) | (simp at *; omega)))) | (refine RowAt.drew ?_)))
      clear hW
      obtain ⟨allc0, allc1, allf0, allf1, alll⟩ := all.two
      obtain ⟨xc0, xc1, xf0, xf1, xl⟩ := x.two
      generalize g.world.heap.size = kx at *
      clear g
      with_reducible refine Calls.mono (Calls.gr0 (h2 _ hBW)) ?_
      rintro e w' ⟨rfl, g, rfl⟩
      have hgl := g.le
      go_wp2_with fail
      refine Calls.named (fun W hW => ?_)
      have hBW : Below w.heap.size w W := by rw [hW]; exact (by repeat (first | exact Below.refl _ _ | assumption | (refine Below.setCell ?_ (by (first | omega | (simp; done) | (simp; omega) | (simp at *; omega))) _) | (refine Below.alloc ?_ (by (first | omega | (simp; done) | (simp; omega) | (simp at *; omega))) _) | (refine Below.drew ?_) | (refine Gr.into _ ?_ (by (first | omega | (simp; done) | (simp; omega) | (simp at *; omega))))))
      have all : RowAt W (kall) 23 [.int .i64 b, .string SA] := by rw [hW]; exact (by repeat (first | assumption | exact RowAt.new_at _ _ _ _ (by (first | omega | (simp; done) | (simp; omega) | (simp at *; omega))) | (refine RowAt.alloc ?_ _) | (refine RowAt.gr ?_ _) | (refine RowAt.setOther ?_ _ _ (by (first | omega | (simp; done) | (simp; omega) | (simp at *; omega)))) | (refine RowAt.drew ?_)))
      have x : RowAt W (kx) 23 [.int .i64 b, .string SX] := by rw [hW]; exact (by repeat (first | assumption | exact RowAt.new_at _ _ _ _ (by (first | omega | (simp; done) | (simp; omega) | (simp at *; omega))) | (refine RowAt.alloc ?_ _) | (refine RowAt.gr ?_ _) | (refine RowAt.setOther ?_ _ _ (by (first | omega | (simp; done) | (simp; omega) | (simp at *; omega)))) | (refine RowAt.drew ?_)))
      have y : RowAt W (g.world.heap.size) 23 [.int .i64 b, .string SY] := by rw [hW]; exact (by repeat (first | assumption | exact RowAt.new_at _ _ _ _ (by (first | omega | (simp; done) | (simp; omega) | (simp at *; omega))) | (refine RowAt.alloc ?_ _) | (refine RowAt.gr ?_ _) | (refine RowAt.setOther ?_ _ _ (by (first | omega | (simp; done) | (simp; omega) | (simp at *; omega)))) | (refine RowAt.drew ?_)))
      clear hW
      obtain ⟨allc0, allc1, allf0, allf1, alll⟩ := all.two
      obtain ⟨xc0, xc1, xf0, xf1, xl⟩ := x.two
      obtain ⟨yc0, yc1, yf0, yf1, yl⟩ := y.two
      generalize g.world.heap.size = ky at *
      clear g
      with_reducible refine Calls.mono (Calls.gr0 (m1 _)) ?_
      rintro e w' ⟨rfl, g, rfl⟩
      have hgl := g.le
      go_wp2_with fail
      refine Calls.named (fun W hW => ?_)
      have hBW : Below w.heap.size w W := by rw [hW]; exact (by repeat (first | exact Below.refl _ _ | assumption | (refine Below.setCell ?_ (by (first | omega | (simp; done) | (simp; omega) | (simp at *; omega))) _) | (refine Below.alloc ?_ (by (first | omega | (simp; done) | (simp; omega) | (simp at *; omega))) _) | (refine Below.drew ?_) | (refine Gr.into _ ?_ (by (first | omega | (simp; done) | (simp; omega) | (simp at *; omega))))))
      have all : RowAt W (kall) 23 [.int .i64 b, .string SA] := by rw [hW]; exact (by repeat (first | assumption | exact RowAt.new_at _ _ _ _ (by (first | omega | (simp; done) | (simp; omega) | (simp at *; omega))) | (refine RowAt.alloc ?_ _) | (refine RowAt.gr ?_ _) | (refine RowAt.setOther ?_ _ _ (by (first | omega | (simp; done) | (simp; omega) | (simp at *; omega)))) | (refine RowAt.drew ?_)))
      have x : RowAt W (kx) 23 [.int .i64 b, .string SX] := by rw [hW]; exact (by repeat (first | assumption | exact RowAt.new_at _ _ _ _ (by (first | omega | (simp; done) | (simp; omega) | (simp at *; omega))) | (refine RowAt.alloc ?_ _) | (refine RowAt.gr ?_ _) | (refine RowAt.setOther ?_ _ _ (by (first | omega | (simp; done) | (simp; omega) | (simp at *; omega)))) | (refine RowAt.drew ?_)))
      have y : RowAt W (ky) 23 [.int .i64 b, .string SY] := by rw [hW]; exact (by repeat (first | assumption | exact RowAt.new_at _ _ _ _ (by (first | omega | (simp; done) | (simp; omega) | (simp at *; omega))) | (refine RowAt.alloc ?_ _) | (refine RowAt.gr ?_ _) | (refine RowAt.setOther ?_ _ _ (by (first | omega | (simp; done) | (simp; omega) | (simp at *; omega)))) | (refine RowAt.drew ?_)))
      have p : RowAt W (g.world.heap.size) 23 [.int .i64 b, .string SA] := by rw [hW]; exact (by repeat (first | assumption | exact RowAt.new_at _ _ _ _ (by (first | omega | (simp; done) | (simp; omega) | (simp at *; omega))) | (refine RowAt.alloc ?_ _) | (refine RowAt.gr ?_ _) | (refine RowAt.setOther ?_ _ _ (by (first | omega | (simp; done) | (simp; omega) | (simp at *; omega)))) | (refine RowAt.drew ?_)))
      clear hW
      obtain ⟨allc0, allc1, allf0, allf1, alll⟩ := all.two
      obtain ⟨xc0, xc1, xf0, xf1, xl⟩ := x.two
      obtain ⟨yc0, yc1, yf0, yf1, yl⟩ := y.two
      obtain ⟨pc0, pc1, pf0, pf1, pl⟩ := p.two
      generalize g.world.heap.size = kp at *
      clear g
      with_reducible refine Calls.mono (Calls.gr0 (m2 _)) ?_
      rintro e w' ⟨rfl, g, rfl⟩
      have hgl := g.le
      go_wp2_with fail
      refine Calls.named (fun W hW => ?_)
      have hBW : Below w.heap.size w W := by rw [hW]; exact (by repeat (first | exact Below.refl _ _ | assumption | (refine Below.setCell ?_ (by (first | omega | (simp; done) | (simp; omega) | (simp at *; omega))) _) | (refine Below.alloc ?_ (by (first | omega | (simp; done) | (simp; omega) | (simp at *; omega))) _) | (refine Below.drew ?_) | (refine Gr.into _ ?_ (by (first | omega | (simp; done) | (simp; omega) | (simp at *; omega))))))
      have all : RowAt W (kall) 23 [.int .i64 b, .string SA] := by rw [hW]; exact (by repeat (first | assumption | exact RowAt.new_at _ _ _ _ (by (first | omega | (simp; done) | (simp; omega) | (simp at *; omega))) | (refine RowAt.alloc ?_ _) | (refine RowAt.gr ?_ _) | (refine RowAt.setOther ?_ _ _ (by (first | omega | (simp; done) | (simp; omega) | (simp at *; omega)))) | (refine RowAt.drew ?_)))
      have x : RowAt W (kx) 23 [.int .i64 b, .string SX] := by rw [hW]; exact (by repeat (first | assumption | exact RowAt.new_at _ _ _ _ (by (first | omega | (simp; done) | (simp; omega) | (simp at *; omega))) | (refine RowAt.alloc ?_ _) | (refine RowAt.gr ?_ _) | (refine RowAt.setOther ?_ _ _ (by (first | omega | (simp; done) | (simp; omega) | (simp at *; omega)))) | (refine RowAt.drew ?_)))
      have y : RowAt W (ky) 23 [.int .i64 b, .string SY] := by rw [hW]; exact (by repeat (first | assumption | exact RowAt.new_at _ _ _ _ (by (first | omega | (simp; done) | (simp; omega) | (simp at *; omega))) | (refine RowAt.alloc ?_ _) | (refine RowAt.gr ?_ _) | (refine RowAt.setOther ?_ _ _ (by (first | omega | (simp; done) | (simp; omega) | (simp at *; omega)))) | (refine RowAt.drew ?_)))
      have p : RowAt W (kp) 23 [.int .i64 b, .string SA] := by rw [hW]; exact (by repeat (first | assumption | exact RowAt.new_at _ _ _ _ (by (first | omega | (simp; done) | (simp; omega) | (simp at *; omega))) | (refine RowAt.alloc ?_ _) | (refine RowAt.gr ?_ _) | (refine RowAt.setOther ?_ _ _ (by (first | omega | (simp; done) | (simp; omega) | (simp at *; omega)))) | (refine RowAt.drew ?_)))
      have q : RowAt W (g.world.heap.size) 23 [.int .i64 b, .string SA] := by rw [hW]; exact (by repeat (first | assumption | exact RowAt.new_at _ _ _ _ (by (first | omega | (simp; done) | (simp; omega) | (simp at *; omega))) | (refine RowAt.alloc ?_ _) | (refine RowAt.gr ?_ _) | (refine RowAt.setOther ?_ _ _ (by (first | omega | (simp; done) | (simp; omega) | (simp at *; omega)))) | (refine RowAt.drew ?_)))
      clear hW
      obtain ⟨allc0, allc1, allf0, allf1, alll⟩ := all.two
      obtain ⟨xc0, xc1, xf0, xf1, xl⟩ := x.two
      obtain ⟨yc0, yc1, yf0, yf1, yl⟩ := y.two
      obtain ⟨pc0, pc1, pf0, pf1, pl⟩ := p.two
      obtain ⟨qc0, qc1, qf0, qf1, ql⟩ := q.two
      generalize g.world.heap.size = kq at *
      clear g
      with_reducible refine Calls.mono (Calls.gr0 (m3 _)) ?_
      rintro e w' ⟨rfl, g, rfl⟩
      have hgl := g.le
      go_wp2_with fail
      go_ret
      exact ⟨rfl, (by repeat (first | exact Below.refl _ _ | assumption | (refine Below.setCell ?_ (by (first | omega | (simp; done) | (simp; omega) | (simp at *; omega))) _) | (refine Below.alloc ?_ (by (first | omega | (simp; done) | (simp; omega) | (simp at *; omega))) _) | (refine Below.drew ?_) | (refine Gr.into _ ?_ (by (first | omega | (simp; done) | (simp; omega) | (simp at *; omega))))))⟩

theorem parts_all (b at_ : Int) (v : Value) (zs : List Nat) (w : World) (hz : U64s w.heap.size w v zs) :
    Calls Try.prog 5 #[.int .i64 b, v, .int .i64 at_] w fun e w' => e = .returned (.bool true) ∧ Below w.heap.size w w' := by
  cases h : isBitsB b
  · exact parts_no b at_ v zs w h hz
  · obtain ⟨h1, h2⟩ := isBits_bd h
    obtain ⟨n, rfl⟩ := Int.eq_ofNat_of_zero_le (a := b) (by omega)
    exact parts_yes n at_ v zs w h hz
end Go.Proofs.Ytngahohheleeeaa
