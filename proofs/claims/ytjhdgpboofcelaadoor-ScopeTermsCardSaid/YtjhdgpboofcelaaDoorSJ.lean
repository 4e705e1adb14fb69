/- Package scope: names copied, sorted, made single, compared. -/
import Derived.Test.YtjhdgpboofcelaaDoorSH
import Derived.Lib.OwnBridge
import Derived.Laws.IdiomCopy
import Derived.Deep.OwnRows
namespace Go.Proofs.YtjhdgpboofcelaaDoor
open Go.RowKit
attribute [local go_sem] Oper.semAt_some

theorem below_grown0 (B : Nat) (w : World) (os : Array Obj) (hB : B ≤ w.heap.size) : Below B w (Sort.grow w os) :=
  ⟨rfl, rfl, rfl, by show w.heap.size ≤ (w.heap ++ os).size; rw [Array.size_append]; omega, fun k hk => by
    show (w.heap ++ os)[k]? = _
    rw [Array.getElem?_append_left (by omega)]⟩
theorem sort_at (blk cap : Nat) (ns : List (List UInt8)) (w : World) (hH : Sort.Holds encStr w blk 0 ns.toArray) (hblk : blk < w.heap.size) (hsz : ns.length ≤ 2000000) :
    Calls Tryd.prog 19 #[.slice (some ⟨blk, 0, none⟩) ns.length cap, .func (.func 20) #[] #[]] w fun e w' => e = .returned (.tuple #[]) ∧ Below blk w w' ∧ Sort.Holds encStr w' blk 0 (sortS ns) ∧ blk < w'.heap.size := by
  refine (sort_any blk cap ns w hH hblk hsz).mono ?_
  rintro e w' ⟨rfl, n, os, rfl⟩
  have h1 : Below blk w (Sort.putRow encStr (Sort.ahead w n) blk 0 (sortS ns)) := Lib.below_putRow (Below.refl _ _) (Nat.le_refl _)
  have h2 : Below blk w (sortWorld encStr w blk 0 n (sortS ns) os) := h1.trans (below_grown0 blk _ os (by have := h1.size; omega))
  exact ⟨rfl, h2, holds_sortWorld encStr w blk 0 n ns.toArray (sortS ns) os hblk hH (by rw [sortS_size]; simp), by have := h2.size; omega⟩
theorem compact_at (blk cap : Nat) (zs : List (List UInt8)) (w : World) (hH : Sort.Holds encStr w blk 0 zs.toArray) (hcap : zs.length ≤ cap) (hsz : zs.length ≤ 2000000) :
    Calls Tryd.prog 22 #[.slice (some ⟨blk, 0, none⟩) zs.length cap] w fun e w' => e = .returned (.slice (some ⟨blk, 0, none⟩) (Lib.compact zs).length cap) ∧ Below blk w w' ∧ ∀ i (h : i < (Lib.compact zs).length), w'.cell? ⟨blk, i, none⟩ = some (.string ⟨(Lib.compact zs)[i].toArray⟩) := by
  refine (Tryd.slices_Compact_string blk 0 cap zs w hH (by omega) hcap).mono ?_
  rintro e w' ⟨rfl, q, rfl⟩
  refine ⟨rfl, Lib.below_putRow (Below.refl _ _) (Nat.le_refl _), fun i hi => ?_⟩
  have hle := Lib.compact_length_le zs
  have h := Sort.cell?_putRow encStr (Sort.ahead w q) blk 0 zs.toArray (Lib.compact zs ++ List.replicate (zs.length - (Lib.compact zs).length) []).toArray (Sort.holds_ahead encStr w q blk 0 _ hH) (by simp; omega) i (by simp; omega)
  rw [Nat.zero_add] at h
  rw [h]
  have e : (Lib.compact zs ++ List.replicate (zs.length - (Lib.compact zs).length) []).toArray[i]! = (Lib.compact zs)[i] := by
    rw [getElem!_pos _ i (by simp; omega)]
    simp [List.getElem_append_left hi]
  rw [e]
theorem holds_below {w W : World} {blk off : Nat} {d : Array (List UInt8)} (h : Sort.Holds encStr w blk off d) (hb : Below w.heap.size w W) (hblk : blk < w.heap.size) : Sort.Holds encStr W blk off d := fun j hj => by
  obtain ⟨h1, h2⟩ := h j hj
  exact ⟨(hb.cell (p := ⟨blk, off + j, none⟩) hblk).trans h1, (hb.frozen (p := ⟨blk, off + j, none⟩) hblk).trans h2⟩
def mkB (l : List UInt8) : ByteArray := ⟨l.toArray⟩
theorem map_mkB (xs ys : List (List UInt8)) : xs.map mkB = ys.map mkB ↔ xs = ys := by
  refine ⟨fun h => ?_, congrArg _⟩
  have := congrArg (List.map (fun b : ByteArray => b.data.toList)) h
  simpa [mkB, Function.comp_def] using this
theorem equal_at (v : Value) (M blk cap : Nat) (ns zs : List (List UInt8)) (w : World) (own : w.ownsRow M 9 1 v ns.length (ns.map fun l => .string ⟨l.toArray⟩)) (hz : ∀ i (h : i < zs.length), w.cell? ⟨blk, i, none⟩ = some (.string ⟨zs[i].toArray⟩)) (h1 : ns.length ≤ 2000000) (h2 : zs.length ≤ 2000000) :
    Calls Tryd.prog 21 #[v, .slice (some ⟨blk, 0, none⟩) zs.length cap] w fun e w' => e = .returned (.bool (decide (ns = zs))) ∧ Below w.heap.size w w' := by
  rcases Nat.eq_zero_or_pos ns.length with h0 | h0
  · obtain rfl : ns = [] := List.eq_nil_of_length_eq_zero h0
    obtain ⟨a, c, rfl⟩ : ∃ a c, v = .slice a 0 c := by
      obtain ⟨-, ⟨rfl, -⟩ | ⟨g, cp, cur, rfl, -⟩⟩ := own
      · exact ⟨_, _, rfl⟩
      · exact ⟨_, _, rfl⟩
    refine (Tryd.slices_Equal_string_empty a (some ⟨blk, 0, none⟩) c zs.length cap w (by omega)).mono ?_
    rintro e w' ⟨rfl, rfl⟩
    refine ⟨?_, Below.refl _ _⟩
    have : (zs.length = 0) ↔ ([] = zs) := by
      constructor
      · intro h; exact (List.eq_nil_of_length_eq_zero h).symm
      · rintro rfl; rfl
    simp only [this]
  · obtain ⟨g, cp, rfl, -, -⟩ := World.ownsRow.form own h0
    refine (Tryd.slices_Equal_string g 0 ns.length cp blk 0 zs.length cap (ns.map mkB) (zs.map mkB) w (by simp) (by simp) (by omega) (by omega) (fun j hj => ?_) (fun j hj => ?_)).mono ?_
    · have c := World.ownsRow.cellAt own j (by simpa using hj)
      rw [Nat.zero_add, c]
      have hj' : j < ns.length := by simpa using hj
      simp [hj', mkB, List.getD]
    · have hj' : j < zs.length := by simpa using hj
      rw [Nat.zero_add, hz j hj']
      simp [hj', mkB, List.getD]
    · rintro e w' ⟨rfl, q, rfl⟩
      refine ⟨?_, ⟨rfl, rfl, rfl, Nat.le_refl _, fun _ _ => rfl⟩⟩
      have e1 : (ns.map mkB).take ns.length = ns.map mkB := List.take_of_length_le (by simp)
      have e2 : (zs.map mkB).take zs.length = zs.map mkB := List.take_of_length_le (by simp)
      rw [e1, e2]
      simp only [map_mkB]
/-- A row made, and names copied into it. -/
theorem copy_at (v : Value) (M n : Nat) (ns : List (List UInt8)) (X : World) (own : X.ownsRow M 9 1 v ns.length (ns.map fun l => .string ⟨l.toArray⟩)) (hn : n = ns.length) (t1 t2 : TypeId) (ht : Tryd.prog.underlying t1 = some (.slice 9)) :
    ∃ W, (∀ ty, (Builtin.copy_ #[t1, t2] ty #[.slice (some ⟨X.heap.size, 0, none⟩) n n, v]).run Tryd.prog (X.alloc (.cells (madeCells #[.string ⟨#[]⟩] n) 9)) = .ok (goInt n) W) ∧
      Sort.Holds encStr W X.heap.size 0 ns.toArray ∧ Below X.heap.size X W ∧ X.heap.size < W.heap.size := by
  subst hn
  obtain ⟨Y, hY⟩ : ∃ Y, X.alloc (.cells (madeCells #[.string ⟨#[]⟩] ns.length) 9) = Y := ⟨_, rfl⟩
  have hBY : Below X.heap.size X Y := by rw [← hY]; exact (Below.refl _ _).alloc (Nat.le_refl _) _
  have hYs : X.heap.size < Y.heap.size := by rw [← hY]; simp
  have hmade : ∀ i, i < ns.length → Y.cell? ⟨X.heap.size, 0 + i, none⟩ = some (.string ⟨#[]⟩) ∧ Y.frozen? ⟨X.heap.size, 0 + i, none⟩ = false := fun i hi => by
    rw [← hY]
    have hb := World.alloc_heap_new X (.cells (madeCells #[.string ⟨#[]⟩] ns.length) 9)
    constructor
    · unfold World.cell?
      rw [hb]
      simp [madeCells, hi, Nat.mod_one]
    · unfold World.frozen?
      rw [hb]
      simp
  have hD : Sort.Holds encStr Y X.heap.size 0 (List.replicate ns.length ([] : List UInt8)).toArray := fun j hj => by
    have hj' : j < ns.length := by simpa using hj
    obtain ⟨k1, k2⟩ := hmade j hj'
    refine ⟨?_, k2⟩
    rw [k1, getElem!_pos _ j hj]
    simp [encStr]
  rw [hY]
  have hw : (Y.drewN 0).setCells X.heap.size 0 (ns.map encStr) = Sort.putRow encStr (Sort.ahead Y 0) X.heap.size 0 ns.toArray := (Lib.putRow_eq_setCells encStr Y X.heap.size 0 (List.replicate ns.length ([] : List UInt8)).toArray ns 0 hD (by simp)).symm
  rcases Nat.eq_zero_or_pos ns.length with h0 | h0
  · obtain rfl : ns = [] := List.eq_nil_of_length_eq_zero h0
    obtain ⟨a, c, rfl⟩ : ∃ a c, v = .slice a 0 c := by
      obtain ⟨-, ⟨rfl, -⟩ | ⟨g, cp, cur, rfl, -⟩⟩ := own
      · exact ⟨_, _, rfl⟩
      · exact ⟨_, _, rfl⟩
    refine ⟨Y, fun ty => ?_, ?_, hBY, hYs⟩
    · exact run_copy_none Y t1 t2 ty 9 _ _ _ _ _ _ ht (by kernel_rfl) rfl
    · intro j hj
      simp at hj
  · obtain ⟨g, cp, rfl, -, hg⟩ := World.ownsRow.form own h0
    have own2 := ownsRow_below own hBY
    refine ⟨Y.setCells X.heap.size 0 (ns.map encStr), fun ty => ?_, ?_, ?_, ?_⟩
    · have h := run_copy_cells (P := Tryd.prog) Y t1 t2 ty 9 X.heap.size 0 ns.length ns.length ⟨g, 0, none⟩ ns.length cp (ns.map encStr) ht (by kernel_rfl) (by simp)
        (fun j u hj => by
          have hj' : j < ns.length := by
            have := (List.getElem?_eq_some_iff.1 hj).1
            simpa using this
          have c := World.ownsRow.cellAt own2 j (by omega)
          have e : (⟨g, 0, none⟩ : Addr).add j = ⟨g, j, none⟩ := by simp [Addr.add]; try omega
          rw [e, c]
          exact hj) (fun j hj => by rw [(hmade j (by simpa using hj)).1]; rfl) (fun j hj => (hmade j (by simpa using hj)).2) (fun u hu => by simp at hu; obtain ⟨a, -, rfl⟩ := hu; rfl)
      simpa using h
    · have e : Y.setCells X.heap.size 0 (ns.map encStr) = Sort.putRow encStr (Sort.ahead Y 0) X.heap.size 0 ns.toArray := hw
      rw [e]
      exact Sort.holds_putRow encStr _ _ _ _ _ (Sort.holds_ahead encStr Y 0 _ _ _ hD) (by simp)
    · have e : Y.setCells X.heap.size 0 (ns.map encStr) = Sort.putRow encStr (Sort.ahead Y 0) X.heap.size 0 ns.toArray := hw
      rw [e]
      exact Lib.below_putRow hBY (Nat.le_refl _)
    · have e : Y.setCells X.heap.size 0 (ns.map encStr) = Sort.putRow encStr (Sort.ahead Y 0) X.heap.size 0 ns.toArray := hw
      rw [e]
      have := (Lib.below_putRow (enc := encStr) (q := 0) (d := ns.toArray) (Below.refl X.heap.size Y) (Nat.le_refl _)).size
      omega
end Go.Proofs.YtjhdgpboofcelaaDoor
