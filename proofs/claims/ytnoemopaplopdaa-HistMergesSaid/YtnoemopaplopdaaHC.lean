/- Package hist: Right. -/
import Derived.Test.YtnoemopaplopdaaHB
import Derived.Test.YtnoemopaplopdaaFence
import Derived.Lib.Hide
namespace Go.Proofs.Ytnoemopaplopdaa
open Go.RowKit

/-- A slice of bins, in memory below block B. -/
def BinsAt (B : Nat) (w : World) (v : Value) (L : List (Int × Nat)) : Prop :=
  (∀ b ∈ L, -9223372036854775808 ≤ b.1 ∧ b.1 ≤ 9223372036854775807 ∧ b.2 < 18446744073709551616) ∧ L.length ≤ 4611686018427387904 ∧ ((∃ a, v = .slice a 0 0 ∧ L = []) ∨
    ∃ a off cap : Nat, v = .slice (some ⟨a, off, none⟩) L.length cap ∧ a < B ∧ L.length ≤ cap ∧
      ∀ i (h : i < L.length), w.cell? ⟨a, off + i * 2, none⟩ = some (.int .i64 L[i].1) ∧ w.cell? ⟨a, off + i * 2 + 1, none⟩ = some (.int .u64 (L[i].2 : Nat)))
theorem BinsAt.below {B C : Nat} {w w' : World} {v : Value} {L : List (Int × Nat)} (h : BinsAt B w v L) (hb : Below C w w') (hC : B ≤ C) : BinsAt B w' v L := by
  obtain ⟨h1, h2, h3⟩ := h
  refine ⟨h1, h2, h3.imp id ?_⟩
  rintro ⟨a, off, cap, h4, h5, hc, h6⟩
  exact ⟨a, off, cap, h4, h5, hc, fun i hi => by rw [hb.cell (by show a < C; omega), hb.cell (by show a < C; omega)]; exact h6 i hi⟩
theorem BinsAt.mono {B C : Nat} {w : World} {v : Value} {L : List (Int × Nat)} (h : BinsAt B w v L) (hC : B ≤ C) : BinsAt C w v L := by
  obtain ⟨h1, h2, h3⟩ := h
  refine ⟨h1, h2, h3.imp id ?_⟩
  rintro ⟨a, off, cap, h4, h5, hc, h6⟩
  exact ⟨a, off, cap, h4, by omega, hc, h6⟩
theorem BinsAt.at_ {w W : World} {v : Value} {L : List (Int × Nat)} (h : BinsAt w.heap.size w v L) (hb : Below w.heap.size w W) : BinsAt W.heap.size W v L :=
  (h.below hb (Nat.le_refl _)).mono hb.size

/-- Are bins right behind one at 'last'? -/
def rightFrom (f : Int) : Int → List (Int × Nat) → Bool
  | _, [] => true
  | last, (a, n) :: l => (boundsB f a).isSome && decide (n ≠ 0) && decide (last < a) && rightFrom f a l
def rightL (f : Int) (L : List (Int × Nat)) : Bool := fineB f && rightFrom f (-1) L
abbrev HistV (f : Int) (v : Value) : Value := .agg #[.int .i64 f, v]

set_option maxRecDepth 100000 in
set_option maxHeartbeats 1000000 in
theorem right_some (f : Int) (a off cap : Nat) (L : List (Int × Nat)) (w : World) (h1 : ∀ b ∈ L, -9223372036854775808 ≤ b.1 ∧ b.1 ≤ 9223372036854775807 ∧ b.2 < 18446744073709551616) (h2 : L.length ≤ 4611686018427387904) (ha : a < w.heap.size)
    (hc : ∀ i (h : i < L.length), w.cell? ⟨a, off + i * 2, none⟩ = some (.int .i64 L[i].1) ∧ w.cell? ⟨a, off + i * 2 + 1, none⟩ = some (.int .u64 (L[i].2 : Nat))) :
    Calls Try.prog 19 #[HistV f (.slice (some ⟨a, off, none⟩) L.length cap)] w fun e w' => e = .returned (.bool (rightL f L)) ∧ Below w.heap.size w w' := by
  go_enter Try.func19, Try.ntmps19
  go_wp2
  go_step3
  go_wp2_with (first | (go_at_call 35; (first | (with_reducible refine Calls.mono (Calls.gr (below_self (isFine_any _ _))) ?_) | (refine Calls.mono (Calls.gr0 (below_self (isFine_any _ _))) ?_)); rintro e w' ⟨rfl, g, rfl⟩; have hgl := g.le; (try simp only [World.size_alloc] at hgl); (try simp only [World.size_setCell] at hgl)))
  go_step3
  go_wp2
  refine wp_named (fun W hW => ?_)
  have hBW : Below w.heap.size w W := by rw [hW]; exact (by repeat (first | exact Below.refl _ _ | assumption | (refine Below.setCell ?_ (by (first | omega | (simp; done) | (simp; omega) | (simp at *; omega))) _) | (refine Below.alloc ?_ (by (first | omega | (simp; done) | (simp; omega) | (simp at *; omega))) _) | (refine Below.drew ?_) | (refine Gr.into _ ?_ (by (first | omega | (simp; done) | (simp; omega) | (simp at *; omega))))))
  have x : RowAt W (w.heap.size) 25 [.int .i64 f, .slice (some ⟨a, off, none⟩) L.length cap] := by rw [hW]; exact (by repeat (first | assumption | exact RowAt.new_at _ _ _ _ (by (first | omega | (simp; done) | (simp; omega) | (simp at *; omega))) | (refine RowAt.alloc ?_ _) | (refine RowAt.gr ?_ _) | (refine RowAt.setOther ?_ _ _ (by (first | omega | (simp; done) | (simp; omega) | (simp at *; omega)))) | (refine RowAt.drew ?_)))
  clear hW
  obtain ⟨xc0, xc1, xf0, xf1, xl⟩ := x.two
  clear hgl g
  go_loopw [3, 4, 17] (fun r last i wr => ∃ (k : Nat) (z : Int), k ≤ L.length ∧ i = .int .i64 k ∧ r = .bool (fineB f) ∧ last = .int .i64 z ∧ rightFrom f (-1) L = rightFrom f z (L.drop k) ∧ Below w.heap.size w wr ∧ RowAt wr w.heap.size 25 [.int .i64 f, .slice (some ⟨a, off, none⟩) L.length cap])
    (fun _ _ i _ => L.length - (intOf i).toNat)
  case atStart => exact ⟨0, -1, by omega, rfl, rfl, rfl, by simp, hBW, x⟩
  case round =>
    obtain ⟨k, z, hk, rfl, rfl, rfl, hr, hB, rx⟩ := hrel
    obtain ⟨xc0, xc1, xf0, xf1, xl⟩ := rx.two
    by_cases hlk : k < L.length
    · obtain ⟨hc0, hc1⟩ := hc k hlk
      rw [← hB.cell (p := ⟨a, off + k * 2, none⟩) ha] at hc0
      rw [← hB.cell (p := ⟨a, off + k * 2 + 1, none⟩) ha] at hc1
      have hin := h1 _ (List.getElem_mem hlk)
      have hal : a < wr.heap.size := Nat.lt_of_lt_of_le ha hB.size
      rw [List.drop_eq_getElem_cons hlk] at hr
      rcases hL : L[k] with ⟨p, n⟩
      rw [hL] at hr hin hc0 hc1
      simp only [rightFrom] at hr
      have HR := Lib.hid hr
      clear hr
      have hno : rightFrom f (-1) L = false → rightL f L = false := fun h => by simp [rightL, h]
      rcases hbd : boundsB f p with _ | ⟨lo, hi⟩
      · have hbc : ∀ W : World, Calls Try.prog 13 #[.int .i64 f, .int .i64 p] W fun e w' => e = .returned (.tuple #[.int .u64 0, .int .u64 0, .bool false]) ∧ Below W.heap.size W w' := fun W => by
          have := bounds_any f p W; rwa [hbd] at this
        have hres := hno (by rw [HR.out, hbd]; rfl)
        go_wp2_with fail
        with_reducible refine Calls.mono (Calls.gr0 (hbc _)) ?_
        rintro e w' ⟨rfl, g, rfl⟩
        have hgl := g.le
        try simp only [World.size_alloc] at hgl
        try simp only [World.size_setCell] at hgl
        go_wp2_with fail
        rw [Exit.noGoto_ret]
        go_ret
        exact ⟨by rw [hres]; rfl, (by repeat (first | exact Below.refl _ _ | assumption | (refine Below.setCell ?_ (by (first | omega | (simp; done) | (simp; omega) | (simp at *; omega))) _) | (refine Below.alloc ?_ (by (first | omega | (simp; done) | (simp; omega) | (simp at *; omega))) _) | (refine Below.drew ?_) | (refine Gr.into _ ?_ (by (first | omega | (simp; done) | (simp; omega) | (simp at *; omega))))))⟩
      · have hbc : ∀ W : World, Calls Try.prog 13 #[.int .i64 f, .int .i64 p] W fun e w' => e = .returned (.tuple #[.int .u64 lo, .int .u64 hi, .bool true]) ∧ Below W.heap.size W w' := fun W => by
          have := bounds_any f p W; rwa [hbd] at this
        by_cases hn : n = 0
        · have hres := hno (by rw [HR.out, hbd]; simp [hn])
          subst hn
          go_wp2_with fail
          with_reducible refine Calls.mono (Calls.gr0 (hbc _)) ?_
          rintro e w' ⟨rfl, g, rfl⟩
          have hgl := g.le
          try simp only [World.size_alloc] at hgl
          try simp only [World.size_setCell] at hgl
          go_wp2_with fail
          rw [Exit.noGoto_ret]
          go_ret
          exact ⟨by rw [hres]; rfl, (by repeat (first | exact Below.refl _ _ | assumption | (refine Below.setCell ?_ (by (first | omega | (simp; done) | (simp; omega) | (simp at *; omega))) _) | (refine Below.alloc ?_ (by (first | omega | (simp; done) | (simp; omega) | (simp at *; omega))) _) | (refine Below.drew ?_) | (refine Gr.into _ ?_ (by (first | omega | (simp; done) | (simp; omega) | (simp at *; omega))))))⟩
        · have hn2 : ((n : Int) == 0) = false := by simp; omega
          by_cases hp : p ≤ z
          · have hres := hno (by rw [HR.out, hbd]; simp; omega)
            go_wp2_with fail
            with_reducible refine Calls.mono (Calls.gr0 (hbc _)) ?_
            rintro e w' ⟨rfl, g, rfl⟩
            have hgl := g.le
            try simp only [World.size_alloc] at hgl
            try simp only [World.size_setCell] at hgl
            go_wp2_with fail
            rw [Exit.noGoto_ret]
            go_ret
            exact ⟨by rw [hres]; rfl, (by repeat (first | exact Below.refl _ _ | assumption | (refine Below.setCell ?_ (by (first | omega | (simp; done) | (simp; omega) | (simp at *; omega))) _) | (refine Below.alloc ?_ (by (first | omega | (simp; done) | (simp; omega) | (simp at *; omega))) _) | (refine Below.drew ?_) | (refine Gr.into _ ?_ (by (first | omega | (simp; done) | (simp; omega) | (simp at *; omega))))))⟩
          · have hz : z < p := by omega
            go_wp2_with fail
            with_reducible refine Calls.mono (Calls.gr0 (hbc _)) ?_
            rintro e w' ⟨rfl, g, rfl⟩
            have hgl := g.le
            try simp only [World.size_alloc] at hgl
            try simp only [World.size_setCell] at hgl
            go_wp2_with fail
            go_roundw
            case rel => exact ⟨k + 1, p, by omega, by go_num, rfl, rfl, by rw [HR.out, hbd]; simp [hz, hn], (by repeat (first | exact Below.refl _ _ | assumption | (refine Below.setCell ?_ (by (first | omega | (simp; done) | (simp; omega) | (simp at *; omega))) _) | (refine Below.alloc ?_ (by (first | omega | (simp; done) | (simp; omega) | (simp at *; omega))) _) | (refine Below.drew ?_) | (refine Gr.into _ ?_ (by (first | omega | (simp; done) | (simp; omega) | (simp at *; omega)))))), (by repeat (first | assumption | exact RowAt.new_at _ _ _ _ (by (first | omega | (simp; done) | (simp; omega) | (simp at *; omega))) | (refine RowAt.alloc ?_ _) | (refine RowAt.gr ?_ _) | (refine RowAt.setOther ?_ _ _ (by (first | omega | (simp; done) | (simp; omega) | (simp at *; omega)))) | (refine RowAt.drew ?_)))⟩
            case measure => simp [intOf]; omega
    · obtain rfl : k = L.length := by omega
      have hres : rightL f L = fineB f := by unfold rightL; rw [hr, List.drop_length]; simp [rightFrom]
      go_wp2
      rw [Exit.noGoto_ret]
      go_ret
      exact ⟨by rw [hres]; rfl, (by repeat (first | exact Below.refl _ _ | assumption | (refine Below.setCell ?_ (by (first | omega | (simp; done) | (simp; omega) | (simp at *; omega))) _) | (refine Below.alloc ?_ (by (first | omega | (simp; done) | (simp; omega) | (simp at *; omega))) _) | (refine Below.drew ?_) | (refine Gr.into _ ?_ (by (first | omega | (simp; done) | (simp; omega) | (simp at *; omega))))))⟩
end Go.Proofs.Ytnoemopaplopdaa
