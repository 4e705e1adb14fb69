/- cmp.Compare at texts; package label: how labels are sorted, fewer than twenty. -/
import Derived.Test.YtjhdgpboofcelaaGreatD7
import Derived.Sort.LotA
namespace Go.Proofs.YtjhdgpboofcelaaGreat
open Go.RowKit

theorem isNaN_any (x : ByteArray) (w : World) : Calls Tryz.prog 52 #[.string x] w fun e w' => e = .returned (.bool false) ∧ w' = w := by
  go_enter Tryz.func52, Tryz.ntmps52
  go_wp2
  go_ret
  exact ⟨by simp, rfl⟩
/-- Which of two texts is less. -/
def cmpB (x y : ByteArray) : Int := if Go.Op.bytesLess x.toList y.toList then -1 else if x.toList == y.toList then 0 else 1
theorem compare_any (x y : ByteArray) (w : World) : Calls Tryz.prog 30 #[.string x, .string y] w fun e w' => e = .returned (.int .i64 (cmpB x y)) ∧ w' = w := by
  unfold cmpB
  cases h1 : Go.Op.bytesLess x.toList y.toList
  · cases h2 : (x.toList == y.toList)
    · go_enter Tryz.func30, Tryz.ntmps30
      go_wp2_with (go_at_call 52; refine (isNaN_any _ _).mono ?_; rintro e w' ⟨rfl, rfl⟩)
      go_ret
      exact ⟨rfl, rfl⟩
    · go_enter Tryz.func30, Tryz.ntmps30
      go_wp2_with (go_at_call 52; refine (isNaN_any _ _).mono ?_; rintro e w' ⟨rfl, rfl⟩)
      go_ret
      exact ⟨rfl, rfl⟩
  · go_enter Tryz.func30, Tryz.ntmps30
    go_wp2_with (go_at_call 52; refine (isNaN_any _ _).mono ?_; rintro e w' ⟨rfl, rfl⟩)
    go_ret
    exact ⟨rfl, rfl⟩
/-- Labels by their names. -/
def cfB (x y : BLab) : Int := cmpB x.1 y.1
theorem byName_any (x y : BLab) (w : World) : Calls Tryz.prog 29 #[LabV x, LabV y] w fun e w' => e = .returned (.int .i64 (cfB x y)) ∧ w' = (w.alloc (.cells #[.string x.1, .string x.2] 41)).alloc (.cells #[.string y.1, .string y.2] 41) := by
  obtain ⟨a, b⟩ := x
  obtain ⟨c, d⟩ := y
  unfold cfB
  simp only
  have hc := fun W => compare_any a c W
  generalize cmpB a c = r at *
  go_enter Tryz.func29, Tryz.ntmps29
  go_wp2_with (go_at_call 30; refine (hc _).mono ?_; rintro e w' ⟨rfl, rfl⟩)
  go_ret
  exact ⟨rfl, rfl⟩
def encB (x : BLab) : List Value := [.string x.1, .string x.2]
theorem eg29 : ∀ args w, (callFunc 29 args).run Tryz.prog w = .ok (.enter 29 args) w := enters_of Tryz.func29 (by kernel_rfl) rfl
theorem cmp_lays (blk off size : Nat) (w : World) : CmpLays Tryz.prog 29 #[] encB 2 cfB blk off size w := fun m os dk _ x y => by
  have h := byName_any x y (sortWorldK encB 2 w blk off m dk os)
  refine h.mono ?_
  rintro e w' ⟨rfl, rfl⟩
  refine ⟨rfl, 0, #[.cells #[.string x.1, .string x.2] 41, .cells #[.string y.1, .string y.2] 41], ?_⟩
  rw [Sort.alloc_eq_grow, Sort.alloc_eq_grow, Sort.grow_grow]
  rfl
theorem insertion_any (blk off cap a b : Nat) (d : Array BLab) (w : World) (hH : Sort.HoldsK encB 2 w blk off d) (hblk : blk < w.heap.size) (hab : a ≤ b) (hb : b ≤ d.size) (hsz : d.size ≤ 1000000) :
    Calls Tryz.prog 62 #[.slice (some ⟨blk, off, none⟩) d.size cap, .int .i64 a, .int .i64 b, .func (.func 29) #[] #[]] w fun e w' => e = .returned (.tuple #[]) ∧ ∃ n os, w' = sortWorldK encB 2 w blk off n (Sort.insertionSort (ltOf cfB) d a b) os :=
  AnyQ.insertionSortCmpFunc Tryz.insertA 2 Tryz.isAgg41 Tryz.sizeOf41 encB (fun _ => rfl) (fun x v hv => by simp [encB] at hv; rcases hv with rfl | rfl <;> rfl) cfB 29 #[] blk off cap a b d w eg29 (cmp_lays _ _ _ _) hH hblk hab hb (by omega)
set_option maxHeartbeats 2000000 in
set_option maxRecDepth 100000 in
theorem stable_few (blk off cap : Nat) (d : Array BLab) (w : World) (hH : Sort.HoldsK encB 2 w blk off d) (hblk : blk < w.heap.size) (hsz : d.size < 20) :
    Calls Tryz.prog 51 #[.slice (some ⟨blk, off, none⟩) d.size cap, .int .i64 d.size, .func (.func 29) #[] #[]] w fun e w' => e = .returned (.tuple #[]) ∧ ∃ n os, w' = sortWorldK encB 2 w blk off n (Sort.insertionSort (ltOf cfB) d 0 d.size) os := by
  have hI := insertion_any blk off cap 0 d.size d w hH hblk (Nat.zero_le _) (Nat.le_refl _) (by omega)
  have h1 : ¬ (20 : Int) ≤ (d.size : Int) := by omega
  have h2 : ¬ (20 : Int) < (d.size : Int) := by omega
  clear hH hsz
  go_enter Tryz.func51, Tryz.ntmps51
  go_wp2
  refine wp_loop_rounds 1 ?_
  rw [rounds_succ]
  go_wp2_with (go_at_call 62; refine hI.mono ?_; rintro e w' ⟨rfl, n, os, rfl⟩)
  refine wp_loop_rounds 1 ?_
  rw [rounds_succ]
  go_wp2
  go_end0
  exact ⟨rfl, n, os, rfl⟩
theorem sort_few (blk off cap : Nat) (d : Array BLab) (w : World) (hH : Sort.HoldsK encB 2 w blk off d) (hblk : blk < w.heap.size) (hsz : d.size < 20) :
    Calls Tryz.prog 28 #[.slice (some ⟨blk, off, none⟩) d.size cap, .func (.func 29) #[] #[]] w fun e w' => e = .returned (.tuple #[]) ∧ ∃ n os, w' = sortWorldK encB 2 w blk off n (Sort.insertionSort (ltOf cfB) d 0 d.size) os := by
  have hS := stable_few blk off cap d w hH hblk hsz
  clear hH
  go_enter Tryz.func28, Tryz.ntmps28
  go_wp2_with (go_at_call 51; refine hS.mono ?_; rintro e w' ⟨rfl, n, os, rfl⟩)
  go_end0
  exact ⟨rfl, n, os, rfl⟩
end Go.Proofs.YtjhdgpboofcelaaGreat
