/- Package label: Parse, by how labels are sorted. -/
import Derived.Test.YtjhdgpboofcelaaGreatD8
namespace Go.Proofs.YtjhdgpboofcelaaGreat
open Go.RowKit

theorem told_wrong (w : World) :
    Calls Tryz.prog 27 #[.iface 53 (.agg #[])] w fun e w' => e = .returned (.int .i64 40) ∧ Below w.heap.size w w' := by
  have hta : ∀ w, Sem.run Tryz.prog (Instr.typeAssert (.iface 53 (.agg #[])) 47 53 true) w = .ok (.tuple #[.agg #[], .bool true]) w := fun _ => by kernel_rfl
  go_enter Tryz.func27, Tryz.ntmps27
  go_wp2
  go_ret
  exact ⟨rfl, (Below.refl _ _).alloc (Nat.le_refl _) _⟩

/-- Labels by their names, as the insertion sort leaves them. -/
def sortA (L : List BLab) : List BLab := (Sort.insertionSort (ltOf cfB) L.toArray 0 L.length).toList
/-- The set that a text tells. -/
def parseA (l : List UInt8) : Option (List BLab) := (readB l).bind fun L => if rightA (sortA L) then some (sortA L) else none
theorem bytesLess_eq : ∀ (x y : List UInt8), Op.bytesLess x y = decide (x < y)
  | [], [] => by simp [Op.bytesLess]
  | _ :: _, [] => by simp [Op.bytesLess]
  | [], _ :: _ => by simp [Op.bytesLess]
  | a :: x, b :: y => by
    rw [Op.bytesLess, bytesLess_eq x y]
    simp only [List.cons_lt_cons_iff]
    by_cases h1 : a < b <;> by_cases h2 : a = b <;> by_cases h3 : x < y <;> simp [h1, h2, h3]
theorem ltOf_cfB : ltOf cfB = fun x y : BLab => Sort.ltStr x.1.toList y.1.toList := by
  funext x y
  show decide (cmpB x.1 y.1 < 0) = decide (x.1.toList < y.1.toList)
  unfold cmpB
  rw [bytesLess_eq]
  by_cases h : x.1.toList < y.1.toList
  · simp [h]
  · simp only [h, decide_false, Bool.false_eq_true, if_false]
    split <;> simp
theorem swo_cfB : Sort.SWO (ltOf cfB) := by
  rw [ltOf_cfB]
  exact ⟨fun x => Sort.swo_ltStr.irrefl x.1.toList, fun x y z => Sort.swo_ltStr.trans x.1.toList y.1.toList z.1.toList, fun x y z => Sort.swo_ltStr.ntrans x.1.toList y.1.toList z.1.toList⟩
theorem insertion_perm (d : Array BLab) : Sort.PermIn 0 d.size d (Sort.insertionSort (ltOf cfB) d 0 d.size) ∧ Sort.SortedIn (ltOf cfB) 0 d.size (Sort.insertionSort (ltOf cfB) d 0 d.size) :=
  Sort.insertionSort_holds swo_cfB d 0 d.size (Nat.zero_le _) (Nat.le_refl _)
theorem insertion_size (d : Array BLab) : (Sort.insertionSort (ltOf cfB) d 0 d.size).size = d.size := (insertion_perm d).1.1
theorem insertion_toList (d : Array BLab) : (Sort.insertionSort (ltOf cfB) d 0 d.size).toList.Perm d.toList := by
  have h := (insertion_perm d).1
  obtain ⟨h1, -, h3⟩ := h
  have e1 : d.extract 0 d.size = d := by simp
  rw [e1] at h3
  have e2 : (Sort.insertionSort (ltOf cfB) d 0 d.size).extract 0 d.size = Sort.insertionSort (ltOf cfB) d 0 d.size := by
    conv => lhs; arg 3; rw [← h1]
    simp
  rw [e2] at h3
  exact h3
theorem sortA_perm (L : List BLab) : (sortA L).Perm L := by
  have h := insertion_toList L.toArray
  simpa [sortA] using h
theorem labCells_get : ∀ (L : List BLab) (i : Nat) (h : i < L.length), (labCells L)[i * 2]? = some (.string L[i].1) ∧ (labCells L)[i * 2 + 1]? = some (.string L[i].2)
  | [], i, h => by simp at h
  | x :: L, 0, _ => ⟨rfl, rfl⟩
  | x :: L, i + 1, h => by
    have := labCells_get L i (by simpa using h)
    have e : labCells (x :: L) = .string x.1 :: .string x.2 :: labCells L := rfl
    rw [e, show (i + 1) * 2 = i * 2 + 1 + 1 by omega]
    simpa using this
theorem holds_of_own (w : World) (M g cap : Nat) (L : List BLab) (h : w.ownsRow M 41 2 (.slice (some ⟨g, 0, none⟩) L.length cap) L.length (labCells L)) : Sort.HoldsK encB 2 w g 0 L.toArray := by
  intro j hj
  rw [Sort.size_flatK] at hj
  have hj' : j < L.length * 2 := by simpa using hj
  have hl := labCells_length L
  rw [Sort.get_flatK _ _ _ _ hj, Nat.zero_add]
  refine ⟨?_, h.frozenAt j⟩
  obtain ⟨g1, g2⟩ := labCells_get L (j / 2) (by omega)
  have hd : L.toArray[j / 2]! = L[j / 2]'(by omega) := by
    rw [getElem!_pos _ _ (by simp; omega)]; simp
  rw [hd, h.cellAt j hj']
  rcases Nat.mod_two_eq_zero_or_one j with hm | hm
  · have e : j = j / 2 * 2 := by omega
    rw [hm]
    have : (labCells L)[j]? = some (.string (L[j / 2]'(by omega)).1) := by rw [← g1]; congr 1
    exact this
  · have e : j = j / 2 * 2 + 1 := by omega
    rw [hm]
    have : (labCells L)[j]? = some (.string (L[j / 2]'(by omega)).2) := by rw [← g2]; congr 1
    exact this
theorem labels_of_holds (w : World) (g cap : Nat) (d : Array BLab) (h : Sort.HoldsK encB 2 w g 0 d) (hg : g < w.heap.size) (hc : d.size ≤ cap) (hs : ∀ x ∈ d.toList, x.1.size ≤ 1000000 ∧ x.2.size ≤ 1000000) (hl : d.size ≤ 1000000) : LabelsAt w.heap.size w (.slice (some ⟨g, 0, none⟩) d.size cap) d.toList := by
  refine ⟨hs, by simpa using hl, .inr ⟨g, 0, cap, by simp, hg, by simpa using hc, fun i hi => ?_⟩⟩
  have hi' : i < d.size := by simpa using hi
  have h1 := (Sort.HoldsK.cell h hi' (c := 0) (by omega)).1
  have h2 := (Sort.HoldsK.cell h hi' (c := 1) (by omega)).1
  rw [getElem!_pos d i hi'] at h1 h2
  exact ⟨by simpa [encB] using h1, by simpa [encB] using h2⟩
theorem sortW_stay (B M b : Nat) (w : World) (g n : Nat) (dk : Array BLab) (os : Array Obj) (hg : g < w.heap.size) (hB : B ≤ g) (hM : M ≤ g) : Stay B M b w (sortWorldK encB 2 w g 0 n dk os) := by
  have hsz : (sortWorldK encB 2 w g 0 n dk os).heap.size = w.heap.size + os.size := by
    unfold sortWorldK
    rw [Sort.size_grow, Sort.size_putRowK]
    rfl
  have hk : ∀ k, k < w.heap.size → k ≠ g → (sortWorldK encB 2 w g 0 n dk os).heap[k]? = w.heap[k]? := by
    intro k hk hne
    unfold sortWorldK Sort.grow Sort.putRowK Sort.putRow Sort.mapBlock Sort.ahead
    simp only []
    rw [Array.getElem?_append_left (by simpa using hk)]
    simp [Array.getElem?_modify, Ne.symm hne]
  refine ⟨⟨rfl, rfl, rfl, by omega, fun k h => ?_⟩, fun k h1 _ h3 => hk k h3 (by omega)⟩
  rcases Nat.lt_or_ge k w.heap.size with h4 | h4
  · exact hk k h4 (by omega)
  · omega
theorem grown_sortW (w : World) (g n : Nat) (dk : Array BLab) (os : Array Obj) (hg : g < w.heap.size) : w.grownBy (sortWorldK encB 2 w g 0 n dk os) (some g) := by
  have h := sortW_stay g g g w g n dk os hg (Nat.le_refl _) (Nat.le_refl _)
  refine ⟨h.1.os, h.1.tape, h.1.output, h.1.size, fun k hk hne => ?_⟩
  have hk2 : k ≠ g := fun e => hne (by rw [e])
  unfold sortWorldK Sort.grow Sort.putRowK Sort.putRow Sort.mapBlock Sort.ahead
  simp only []
  rw [Array.getElem?_append_left (by simpa using hk)]
  simp [Array.getElem?_modify, Ne.symm hk2]
theorem stay_of_grown {B M b : Nat} {w w' : World} {g : Nat} (h : w.grownBy w' (some g)) (hB : B ≤ g) (hM : M ≤ g) (hs : B ≤ w.heap.size) : Stay B M b w w' :=
  ⟨⟨h.os, h.tape, h.output, h.size, fun k hk => h.block k (by omega) (fun e => by have := Option.some.inj e; omega)⟩, fun k h1 _ h3 => h.block k h3 (fun e => by have := Option.some.inj e; omega)⟩
/-- How fewer than n labels are sorted. -/
def SortLaw (n : Nat) : Prop := ∀ (g cap : Nat) (d : Array BLab) (W : World), d.size < n → Sort.HoldsK encB 2 W g 0 d → g < W.heap.size → d.size ≤ 1000000 →
  Calls Tryz.prog 28 #[.slice (some ⟨g, 0, none⟩) d.size cap, .func (.func 29) #[] #[]] W fun e w' => e = .returned (.tuple #[]) ∧
    ∃ dk : Array BLab, W.grownBy w' (some g) ∧ Sort.HoldsK encB 2 w' g 0 dk ∧ dk.size = d.size ∧ (∀ x ∈ dk.toList, x ∈ d.toList) ∧ (d.size < 20 → dk = Sort.insertionSort (ltOf cfB) d 0 d.size)
theorem sortLaw_few : SortLaw 20 := fun g cap d W h1 h2 h3 _ => (sort_few g 0 cap d W h2 h3 h1).mono fun _ _ ⟨he, n, os, hw⟩ =>
  ⟨he, _, hw ▸ grown_sortW W g n _ os h3, hw ▸ holdsK_sortWorldK_c encB _ _ _ _ d _ n os h2 h3 (insertion_size d), insertion_size d, fun x hx => (insertion_toList d).mem_iff.1 hx, fun _ => rfl⟩
end Go.Proofs.YtjhdgpboofcelaaGreat
