/- Package hist's small functions: told, isFine, shifted, Bucket. -/
import Derived.Test.YtnoemopaplopdaaBase
import Derived.Test.YtnoemopaplopdaaTail2
import Derived.Test.YtnoemopaplopdaaShelf
import Derived.Test.YtnoemopaplopdaaHP
namespace Go.Proofs.Ytnoemopaplopdaa
open Go.RowKit

def fineB (n : Int) : Bool := decide (0 ≤ n) && decide (n ≤ 3)
theorem fine_bd {n : Int} (h : fineB n = true) : 0 ≤ n ∧ n ≤ 3 := by simpa [fineB] using h
theorem isFine_any (n : Int) (w : World) :
    Calls Try.prog 35 #[.int .i64 n] w fun e w' => e = .returned (.bool (fineB n)) ∧ w = w' := by
  by_cases h1 : 0 ≤ n
  · by_cases h2 : n ≤ 3
    all_goals
      go_enter Try.func35, Try.ntmps35
      go_wp2
      go_ret
      exact ⟨by simp [fineB, *]; try omega, rfl⟩
  · go_enter Try.func35, Try.ntmps35
    go_wp2
    go_ret
    exact ⟨by simp [fineB, *]; try omega, rfl⟩
theorem told_wrong (w : World) :
    Calls Try.prog 38 #[.iface 73 (.agg #[])] w fun e w' => e = .returned (.int .i64 90) ∧ Below w.heap.size w w' := by
  have hta : ∀ w, Sem.run Try.prog (Instr.typeAssert (.iface 73 (.agg #[])) 59 73 true) w = .ok (.tuple #[.agg #[], .bool true]) w := fun _ => by kernel_rfl
  go_enter Try.func38, Try.ntmps38
  go_wp2
  go_ret
  exact ⟨rfl, (Below.refl _ _).alloc (Nat.le_refl _) _⟩
def shiftZ (n by_ : Int) : Int := if by_ < 0 then n / 2 ^ (-by_).toNat else IntKind.u64.wrap (n * 2 ^ by_.toNat)
theorem shifted_any (n by_ : Int) (w : World) (h : -64 ≤ by_) (h2 : by_ ≤ 64) :
    Calls Try.prog 36 #[.int .u64 n, .int .i64 by_] w fun e w' => e = .returned (.int .u64 (shiftZ n by_)) ∧ w = w' := by
  by_cases h1 : by_ < 0
  · go_enter Try.func36, Try.ntmps36
    go_wp2
    go_ret
    exact ⟨by simp [shiftZ, h1], rfl⟩
  · go_enter Try.func36, Try.ntmps36
    go_wp2
    go_ret
    exact ⟨by unfold shiftZ; rw [if_neg (by omega)]; rfl, rfl⟩
theorem bucket_no (f v : Int) (w : World) (h : fineB f = false) :
    Calls Try.prog 17 #[.int .i64 f, .int .u64 v] w fun e w' => e = .returned (.int .i64 0) ∧ Below w.heap.size w w' := by
  go_enter Try.func17, Try.ntmps17
  go_wp2_with (first | (go_at_call 35; (first | (with_reducible refine Calls.mono (Calls.gr (below_self (isFine_any _ _))) ?_) | (refine Calls.mono (Calls.gr0 (below_self (isFine_any _ _))) ?_)); rintro e w' ⟨rfl, g, rfl⟩; have hgl := g.le; (try simp only [World.size_alloc] at hgl); (try simp only [World.size_setCell] at hgl)))
  go_ret
  exact ⟨rfl, (by repeat (first | exact Below.refl _ _ | assumption | (refine Below.setCell ?_ (by (first | omega | (simp; done) | (simp; omega) | (simp at *; omega))) _) | (refine Below.alloc ?_ (by (first | omega | (simp; done) | (simp; omega) | (simp at *; omega))) _) | (refine Below.drew ?_) | (refine Gr.into _ ?_ (by (first | omega | (simp; done) | (simp; omega) | (simp at *; omega))))))⟩
theorem bucket_zero (f : Int) (w : World) (h : fineB f = true) :
    Calls Try.prog 17 #[.int .i64 f, .int .u64 0] w fun e w' => e = .returned (.int .i64 0) ∧ Below w.heap.size w w' := by
  go_enter Try.func17, Try.ntmps17
  go_wp2_with (first | (go_at_call 35; (first | (with_reducible refine Calls.mono (Calls.gr (below_self (isFine_any _ _))) ?_) | (refine Calls.mono (Calls.gr0 (below_self (isFine_any _ _))) ?_)); rintro e w' ⟨rfl, g, rfl⟩; have hgl := g.le; (try simp only [World.size_alloc] at hgl); (try simp only [World.size_setCell] at hgl)))
  go_ret
  exact ⟨rfl, (by repeat (first | exact Below.refl _ _ | assumption | (refine Below.setCell ?_ (by (first | omega | (simp; done) | (simp; omega) | (simp at *; omega))) _) | (refine Below.alloc ?_ (by (first | omega | (simp; done) | (simp; omega) | (simp at *; omega))) _) | (refine Below.drew ?_) | (refine Gr.into _ ?_ (by (first | omega | (simp; done) | (simp; omega) | (simp at *; omega))))))⟩
theorem wraps_u64 (n : Int) (h₀ : 0 ≤ n) (h₁ : n < 2 ^ 64) : IntKind.u64.wrap n = n := by rw [IntKind.wrap_u64]; omega
theorem and_mask {f : Nat} (hf : f ≤ 63) (S : Nat) (hS : S < 2 ^ 64) : bits .and .u64 (S : Int) ((2 ^ f : Nat) - 1 : Int) = (S % 2 ^ f : Nat) := by
  have := bits_mask .u64 64 (by decide) wraps_u64 f (by omega) (S : Int) (by omega) (by omega)
  simpa using this
theorem four {f : Nat} (h : f ≤ 3) : f = 0 ∨ f = 1 ∨ f = 2 ∨ f = 3 := by omega
theorem bucket_val {f k S : Nat} (h : f ≤ 3) (hk : k ≤ 63) (hS : S < 2 ^ 64) :
    wrap64 (wrap64 (1 + wrap64 ((k : Int) * 2 ^ f)) + wrap64 (bits BinOp.and IntKind.u64 (S : Int) (IntKind.u64.wrap (IntKind.u64.wrap (2 ^ f) - 1)))) = ((1 + k * 2 ^ f + S % 2 ^ f : Nat) : Int) := by
  have e1 : IntKind.u64.wrap (IntKind.u64.wrap (2 ^ f) - 1) = ((2 ^ f : Nat) - 1 : Int) := by
    rcases four h with rfl | rfl | rfl | rfl <;> decide +kernel
  rw [e1, and_mask (by omega) S hS]
  have e2 : S % 2 ^ f < 2 ^ f := Nat.mod_lt _ (Nat.two_pow_pos _)
  generalize S % 2 ^ f = r at *
  unfold wrap64
  rcases four h with rfl | rfl | rfl | rfl <;> omega
theorem bucket_pos (f v k S : Nat) (w : World) (h : f ≤ 3) (hv : v < 2 ^ 64) (h0 : v ≠ 0) (hk : Lib.bitLen v = k + 1) (hS : shiftZ v ((f : Int) - k) = (S : Nat)) (hS2 : S < 2 ^ 64) :
    Calls Try.prog 17 #[.int .i64 f, .int .u64 v] w fun e w' => e = .returned (.int .i64 (1 + k * 2 ^ f + S % 2 ^ f : Nat)) ∧ Below w.heap.size w w' := by
  have hf : fineB f = true := by simp [fineB]; omega
  have hv0 : ((v : Int) == 0) = false := by simp; omega
  have hk2 : k ≤ 63 := by have := (bl_le hv).2 hv; omega
  have hL : ∀ w : World, Calls Try.prog 42 #[.int .u64 v] w fun e w' => e = .returned (.int .i64 (k + 1 : Nat)) ∧ Below w.heap.size w w' := fun w => by
    have := below_self' (Try.bits_Len64 v w (by omega) (by omega))
    rw [Int.toNat_natCast, hk] at this
    exact this
  have hsh : ∀ w : World, Calls Try.prog 36 #[.int .u64 v, .int .i64 ((f : Int) - k)] w fun e w' => e = .returned (.int .u64 (S : Nat)) ∧ w = w' := fun w => by
    have := shifted_any v ((f : Int) - k) w (by omega) (by omega)
    rwa [hS] at this
  clear hS hk
  go_enter Try.func17, Try.ntmps17
  go_wp2_with (first | (go_at_call 35; (first | (with_reducible refine Calls.mono (Calls.gr (below_self (isFine_any _ _))) ?_) | (refine Calls.mono (Calls.gr0 (below_self (isFine_any _ _))) ?_)); rintro e w' ⟨rfl, g, rfl⟩; have hgl := g.le; (try simp only [World.size_alloc] at hgl); (try simp only [World.size_setCell] at hgl)) | (go_at_call 42; (first | (with_reducible refine Calls.mono (Calls.gr (hL _)) ?_) | (refine Calls.mono (Calls.gr0 (hL _)) ?_)); rintro e w' ⟨rfl, g, rfl⟩; have hgl := g.le; (try simp only [World.size_alloc] at hgl); (try simp only [World.size_setCell] at hgl)))
  refine wp_region_gr' (by kernel_rfl) (by kernel_rfl) ?_
  repeat (go_big_quiet_step (first | (go_at_call 36; exact Calls.gr (below_self (hsh _)))))
  refine wpQuiet_nil ?_
  intro g
  go_wp2
  go_ret
  exact ⟨congrArg (fun n => Ending.returned (Value.int .i64 n)) (bucket_val h hk2 hS2), (by repeat (first | exact Below.refl _ _ | assumption | (refine Below.setCell ?_ (by (first | omega | (simp; done) | (simp; omega) | (simp at *; omega))) _) | (refine Below.alloc ?_ (by (first | omega | (simp; done) | (simp; omega) | (simp at *; omega))) _) | (refine Below.drew ?_) | (refine Gr.into _ ?_ (by (first | omega | (simp; done) | (simp; omega) | (simp at *; omega))))))⟩
end Go.Proofs.Ytnoemopaplopdaa
