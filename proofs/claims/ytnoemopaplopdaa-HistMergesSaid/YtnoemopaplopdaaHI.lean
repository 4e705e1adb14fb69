/- Package hist: the keys of a map, sorted. -/
import Derived.Test.YtnoemopaplopdaaHE
import Derived.Test.YtnoemopaplopdaaIter
namespace Go.Proofs.Ytnoemopaplopdaa
open Go.RowKit Go.Maps Go.Sort Go.Shelf

theorem sortsA (m : Nat) : AnyZI.SortsIn Try.prog Try.sortedA_ren Fence.wide m :=
  ⟨fun blk off cap ss W hH hblk hsz => callsIn_wide.2 (Try.slices_Sort_int blk off cap ss W hH hblk hsz),
   fun p cap W => callsIn_wide.2 (Try.slices_Sort_int_none p cap W)⟩

theorem keys_any (bm : Option Nat) (w : World) : Calls Try.prog 48 #[.map bm] w fun e w' => e = .returned (.func (.func 52) #[] #[.pointer (some ⟨w.heap.size, 0, none⟩)]) ∧ w' = w.alloc (.cells #[.map bm] 76) :=
  (callsIn_wide (n := 5)).1 (AnyZI.keys_in Try.keysA Fence.wide 5 trivial rfl bm w)

/-- A map's keys rise. -/
def Rising (M : List (Int × Nat)) : Prop := M.Pairwise fun p q => p.1 < q.1
theorem intKeys_datM (M : List (Int × Nat)) : intKeys (datM M) = M.map (·.1) := by
  simp only [intKeys, datM, List.map_map]
  rfl
set_option maxHeartbeats 1000000 in
theorem sorted_keys (bm : Nat) (M : List (Int × Nat)) (w : World) (hC : CountsAt w bm M) (hR : Rising M) (hlen : M.length * 8 ≤ 140737488355328) :
    Calls Try.prog 47 #[.func (.func 52) #[] #[.pointer (some ⟨w.heap.size, 0, none⟩)]] (w.alloc (.cells #[.map (some bm)] 76)) fun e w' =>
      ∃ v, e = .returned v ∧ w'.ownsRow (w.heap.size + 1) 3 1 v M.length (M.map fun p => .int .i64 p.1) ∧ Below (w.heap.size + 1) (w.alloc (.cells #[.map (some bm)] 76)) w' := by
  have hbl := hC.lt
  have hown : w.ownsMap Try.prog 3 (plainElem Try.prog 22) bm M.length (datM M) := hC
  have hseq : SeqGives Fence.wide 2 Try.prog 52 #[.pointer (some ⟨w.heap.size, 0, none⟩)] encZ (fun ss => ss.Perm (intKeys (datM M))) (Maps.size (datM M)) (w.alloc (.cells #[.map (some bm)] 76)) :=
    AnyZI.keys_gives (ρ := Try.keysA_ren) { Try.keysA with } Fence.wide _ trivial rfl (by omega) w.heap.size bm M.length (datM M) _ (by simp) (by simp) (by
      obtain ⟨es, clock, hb, Ft, hs, hD⟩ := hown
      exact ⟨es, clock, (Below.heap_alloc _ _ bm hbl).trans hb, Ft, hs, hD⟩)
  have hsz : Maps.size (datM M) = M.length := by simp [Maps.size, datM]
  have cS := AnyZI.sorted_in Try.sortedA Fence.wide 5 trivial trivial trivial trivial rfl (by omega) (sortsA _) (enters_of Try.func51 (by kernel_rfl) rfl) 52 #[.pointer (some ⟨w.heap.size, 0, none⟩)] trivial (enters_of Try.func52 (by kernel_rfl) rfl) _ _ (by rw [hsz]; unfold maxLen; omega) (by rw [hsz]; exact hlen) _ hseq
  refine (callsIn_wide.1 cS).mono ?_
  rintro e w' ⟨v, ss, rfl, hS, hrow, -, hb⟩
  rw [intKeys_datM] at hS
  have hsort : ss.mergeSort (fun x y => decide (x ≤ y)) = M.map (·.1) := by
    refine List.Perm.eq_of_pairwise (le := fun a b => a ≤ b) ?_ ?_ ?_ ((List.mergeSort_perm ss _).trans hS)
    · intro a b _ _ h1 h2; omega
    · have := List.pairwise_mergeSort (le := fun x y : Int => decide (x ≤ y)) (fun a b c h1 h2 => by simp at *; omega) (fun a b => by simp; omega) ss
      simpa using this
    · exact (List.pairwise_map.2 (hR.imp fun h => by omega))
  rw [hsort, hS.length_eq, List.length_map, List.map_map] at hrow
  refine ⟨v, rfl, ?_, ?_⟩
  · rw [World.size_alloc] at hrow; exact hrow
  · simpa [World.size_alloc] using hb
end Go.Proofs.Ytnoemopaplopdaa
