/- The walk of the law HistBounds. -/
import Derived.Test.YtnoemopaplopdaaHV
import Derived.Test.YtnoemopaplopdaaHX
namespace Go.Proofs.Ytnoemopaplopdaa
open Go.RowKit

theorem bounds_law_no (f : Int) (v u : Nat) (w : World) (h : fineB f = false) (hv : v < 2 ^ 64) :
    Calls Try.prog 4 #[.int .i64 f, .int .u64 v, .int .u64 u] w fun e w' => e = .returned (.bool true) ∧ Below w.heap.size w w' := by
  have hb : f < 0 ∨ 3 < f := by simp [fineB] at h; omega
  have hbk : ∀ W, Calls Try.prog 17 #[.int .i64 f, .int .u64 v] W fun e w' => e = .returned (.int .i64 0) ∧ Below W.heap.size W w' := fun W => by
    have := bucket_any f v W hv
    simpa [bucketB, h] using this
  have hd : 0 ≤ f → 3 < f := by omega
  rcases Classical.em (f < 0) with h1 | h1
  all_goals
    go_enter Try.func4, Try.ntmps4
    go_wp2_with fail
    with_reducible refine Calls.mono (Calls.gr0 (shown_any _)) ?_
    rintro e w' ⟨rfl, g, rfl⟩
    have hgl := g.le
    try simp only [World.size_alloc] at hgl
    try simp only [World.size_setCell] at hgl
    go_wp2_with fail
    with_reducible refine Calls.mono (Calls.gr (hbk _)) ?_
    rintro e w' ⟨rfl, g, rfl⟩
    have hgl := g.le
    try simp only [World.size_alloc] at hgl
    try simp only [World.size_setCell] at hgl
    go_wp2_with fail
    go_ret
    exact ⟨rfl, (by repeat (first | exact Below.refl _ _ | assumption | (refine Below.setCell ?_ (by (first | omega | (simp; done) | (simp; omega) | (simp at *; omega))) _) | (refine Below.alloc ?_ (by (first | omega | (simp; done) | (simp; omega) | (simp at *; omega))) _) | (refine Below.drew ?_) | (refine Gr.into _ ?_ (by (first | omega | (simp; done) | (simp; omega) | (simp at *; omega))))))⟩
theorem bounds_law_yes (f v u : Nat) (w : World) (h : f ≤ 3) (hv : v < 2 ^ 64) (hu : u < 2 ^ 64) :
    Calls Try.prog 4 #[.int .i64 f, .int .u64 v, .int .u64 u] w fun e w' => e = .returned (.bool true) ∧ Below w.heap.size w w' := by
  have hf : fineB f = true := by simp [fineB]; omega
  have hfi : (f : Int) ≤ 3 := by omega
  have hbk : ∀ (x : Nat), x < 2 ^ 64 → ∀ W, Calls Try.prog 17 #[.int .i64 f, .int .u64 x] W fun e w' => e = .returned (.int .i64 (bucketN f x)) ∧ Below W.heap.size W w' := fun x hx W => by
    have := bucket_any f x W hx
    unfold bucketB at this
    rwa [if_pos hf, Int.toNat_natCast] at this
  obtain ⟨lo, hi, hbn, b1, b2, b3, b4, b5, b6⟩ := bounds_bucket (f := f) hv h
  have kv := hbk v hv
  have klo := hbk lo (by omega)
  have khi := hbk hi b3
  have hKb := bucketN_bd (f := f) hv h
  have kbd : ∀ W, Calls Try.prog 13 #[.int .i64 f, .int .i64 (bucketN f v)] W fun e w' => e = .returned (.tuple #[.int .u64 lo, .int .u64 hi, .bool true]) ∧ Below W.heap.size W w' := fun W => by
    have := bounds_any f (bucketN f v) W
    unfold boundsB at this
    rw [if_pos (by simp [hf]; exact_mod_cast hKb), Int.toNat_natCast, Int.toNat_natCast, hbn] at this
    exact this
  have kmin : ∀ W, Calls Try.prog 17 #[.int .i64 f, .int .u64 (min (v : Int) u)] W fun e w' => e = .returned (.int .i64 (bucketN f (min v u))) ∧ Below W.heap.size W w' := fun W => by
    have := hbk (min v u) (by omega) W
    rwa [show ((min v u : Nat) : Int) = min (v : Int) u by omega] at this
  have kmax : ∀ W, Calls Try.prog 17 #[.int .i64 f, .int .u64 (max (v : Int) u)] W fun e w' => e = .returned (.int .i64 (bucketN f (max v u))) ∧ Below W.heap.size W w' := fun W => by
    have := hbk (max v u) (by omega) W
    rwa [show ((max v u : Nat) : Int) = max (v : Int) u by omega] at this
  have hmm := bucketN_mono (f := f) (u := min v u) (v := max v u) (by omega) (by omega)
  rw [b4] at klo
  rw [b5] at khi
  have k1 : lo ≠ 0 → ∀ W, Calls Try.prog 17 #[.int .i64 f, .int .u64 ((lo : Int) - 1)] W fun e w' => e = .returned (.int .i64 (bucketN f (lo - 1))) ∧ Below W.heap.size W w' := fun h0 W => by
    have := hbk (lo - 1) (by omega) W
    rwa [show ((lo - 1 : Nat) : Int) = (lo : Int) - 1 by omega] at this
  clear hbk hbn b4 b5
  generalize bucketN f (min v u) = Kmin at *
  generalize bucketN f (max v u) = Kmax at *
  generalize bucketN f (lo - 1) = K1 at *
  generalize bucketN f v = K at *
  by_cases h0 : lo = 0
  · subst h0
    have klo' : ∀ W, Calls Try.prog 17 #[.int .i64 f, .int .u64 0] W fun e w' => e = .returned (.int .i64 K) ∧ Below W.heap.size W w' := klo
    have kbd' : ∀ W, Calls Try.prog 13 #[.int .i64 f, .int .i64 K] W fun e w' => e = .returned (.tuple #[.int .u64 0, .int .u64 hi, .bool true]) ∧ Below W.heap.size W w' := kbd
    clear klo kbd k1 b6 b1
    go_enter Try.func4, Try.ntmps4
    go_wp2_with fail
    with_reducible refine Calls.mono (Calls.gr0 (shown_any _)) ?_
    rintro e w' ⟨rfl, g, rfl⟩
    have hgl := g.le
    try simp only [World.size_alloc] at hgl
    try simp only [World.size_setCell] at hgl
    go_wp2_with fail
    with_reducible refine Calls.mono (Calls.gr (kv _)) ?_
    rintro e w' ⟨rfl, g, rfl⟩
    have hgl := g.le
    try simp only [World.size_alloc] at hgl
    try simp only [World.size_setCell] at hgl
    go_wp2_with fail
    with_reducible refine Calls.mono (Calls.gr (kbd' _)) ?_
    rintro e w' ⟨rfl, g, rfl⟩
    have hgl := g.le
    try simp only [World.size_alloc] at hgl
    try simp only [World.size_setCell] at hgl
    go_wp2_with fail
    with_reducible refine Calls.mono (Calls.gr (kmin _)) ?_
    rintro e w' ⟨rfl, g, rfl⟩
    have hgl := g.le
    try simp only [World.size_alloc] at hgl
    try simp only [World.size_setCell] at hgl
    go_wp2_with fail
    with_reducible refine Calls.mono (Calls.gr (kmax _)) ?_
    rintro e w' ⟨rfl, g, rfl⟩
    have hgl := g.le
    try simp only [World.size_alloc] at hgl
    try simp only [World.size_setCell] at hgl
    go_wp2_with fail
    with_reducible refine Calls.mono (Calls.gr (klo' _)) ?_
    rintro e w' ⟨rfl, g, rfl⟩
    have hgl := g.le
    try simp only [World.size_alloc] at hgl
    try simp only [World.size_setCell] at hgl
    go_wp2_with fail
    with_reducible refine Calls.mono (Calls.gr (kv _)) ?_
    rintro e w' ⟨rfl, g, rfl⟩
    have hgl := g.le
    try simp only [World.size_alloc] at hgl
    try simp only [World.size_setCell] at hgl
    go_wp2_with fail
    with_reducible refine Calls.mono (Calls.gr (khi _)) ?_
    rintro e w' ⟨rfl, g, rfl⟩
    have hgl := g.le
    try simp only [World.size_alloc] at hgl
    try simp only [World.size_setCell] at hgl
    go_wp2_with fail
    with_reducible refine Calls.mono (Calls.gr (kv _)) ?_
    rintro e w' ⟨rfl, g, rfl⟩
    have hgl := g.le
    try simp only [World.size_alloc] at hgl
    try simp only [World.size_setCell] at hgl
    go_wp2_with fail
    go_ret
    exact ⟨by first | (simp; done) | (simp; omega), (by repeat (first | exact Below.refl _ _ | assumption | (refine Below.setCell ?_ (by (first | omega | (simp; done) | (simp; omega) | (simp at *; omega))) _) | (refine Below.alloc ?_ (by (first | omega | (simp; done) | (simp; omega) | (simp at *; omega))) _) | (refine Below.drew ?_) | (refine Gr.into _ ?_ (by (first | omega | (simp; done) | (simp; omega) | (simp at *; omega))))))⟩
  · have k1 := k1 h0
    have b6 := b6 h0
    have hlo : lo < 2 ^ 64 := by omega
    go_enter Try.func4, Try.ntmps4
    go_wp2_with fail
    with_reducible refine Calls.mono (Calls.gr0 (shown_any _)) ?_
    rintro e w' ⟨rfl, g, rfl⟩
    have hgl := g.le
    try simp only [World.size_alloc] at hgl
    try simp only [World.size_setCell] at hgl
    go_wp2_with fail
    with_reducible refine Calls.mono (Calls.gr (kv _)) ?_
    rintro e w' ⟨rfl, g, rfl⟩
    have hgl := g.le
    try simp only [World.size_alloc] at hgl
    try simp only [World.size_setCell] at hgl
    go_wp2_with fail
    with_reducible refine Calls.mono (Calls.gr (kbd _)) ?_
    rintro e w' ⟨rfl, g, rfl⟩
    have hgl := g.le
    try simp only [World.size_alloc] at hgl
    try simp only [World.size_setCell] at hgl
    go_wp2_with fail
    with_reducible refine Calls.mono (Calls.gr (kmin _)) ?_
    rintro e w' ⟨rfl, g, rfl⟩
    have hgl := g.le
    try simp only [World.size_alloc] at hgl
    try simp only [World.size_setCell] at hgl
    go_wp2_with fail
    with_reducible refine Calls.mono (Calls.gr (kmax _)) ?_
    rintro e w' ⟨rfl, g, rfl⟩
    have hgl := g.le
    try simp only [World.size_alloc] at hgl
    try simp only [World.size_setCell] at hgl
    go_wp2_with fail
    with_reducible refine Calls.mono (Calls.gr (klo _)) ?_
    rintro e w' ⟨rfl, g, rfl⟩
    have hgl := g.le
    try simp only [World.size_alloc] at hgl
    try simp only [World.size_setCell] at hgl
    go_wp2_with fail
    with_reducible refine Calls.mono (Calls.gr (kv _)) ?_
    rintro e w' ⟨rfl, g, rfl⟩
    have hgl := g.le
    try simp only [World.size_alloc] at hgl
    try simp only [World.size_setCell] at hgl
    go_wp2_with fail
    with_reducible refine Calls.mono (Calls.gr (khi _)) ?_
    rintro e w' ⟨rfl, g, rfl⟩
    have hgl := g.le
    try simp only [World.size_alloc] at hgl
    try simp only [World.size_setCell] at hgl
    go_wp2_with fail
    with_reducible refine Calls.mono (Calls.gr (kv _)) ?_
    rintro e w' ⟨rfl, g, rfl⟩
    have hgl := g.le
    try simp only [World.size_alloc] at hgl
    try simp only [World.size_setCell] at hgl
    go_wp2_with fail
    with_reducible refine Calls.mono (Calls.gr (k1 _)) ?_
    rintro e w' ⟨rfl, g, rfl⟩
    have hgl := g.le
    try simp only [World.size_alloc] at hgl
    try simp only [World.size_setCell] at hgl
    go_wp2_with fail
    with_reducible refine Calls.mono (Calls.gr (kv _)) ?_
    rintro e w' ⟨rfl, g, rfl⟩
    have hgl := g.le
    try simp only [World.size_alloc] at hgl
    try simp only [World.size_setCell] at hgl
    go_wp2_with fail
    go_ret
    exact ⟨by first | (simp; done) | (simp; omega), (by repeat (first | exact Below.refl _ _ | assumption | (refine Below.setCell ?_ (by (first | omega | (simp; done) | (simp; omega) | (simp at *; omega))) _) | (refine Below.alloc ?_ (by (first | omega | (simp; done) | (simp; omega) | (simp at *; omega))) _) | (refine Below.drew ?_) | (refine Gr.into _ ?_ (by (first | omega | (simp; done) | (simp; omega) | (simp at *; omega))))))⟩
theorem bounds_law (f : Int) (v u : Nat) (w : World) (hv : v < 2 ^ 64) (hu : u < 2 ^ 64) :
    Calls Try.prog 4 #[.int .i64 f, .int .u64 v, .int .u64 u] w fun e w' => e = .returned (.bool true) ∧ Below w.heap.size w w' := by
  cases h : fineB f
  · exact bounds_law_no f v u w h hv
  · obtain ⟨h1, h2⟩ := fine_bd h
    obtain ⟨n, rfl⟩ := Int.eq_ofNat_of_zero_le (a := f) h1
    exact bounds_law_yes n v u w (by omega) hv hu
end Go.Proofs.Ytnoemopaplopdaa
