/- Package label: Get. -/
import Derived.Test.YtjhdgpboofcelaaDoorE4
import Derived.Test.YtjhdgpboofcelaaDoorC5
namespace Go.Proofs.YtjhdgpboofcelaaDoor
open Go.RowKit

/-- The value of a name. -/
abbrev isN (name : ByteArray) (x : BLab) : Bool := x.1.toList == name.toList
def getA (L : List BLab) (name : ByteArray) : Option ByteArray := (L.find? (isN name)).map (·.2)
theorem isName_lab (x : BLab) (name : ByteArray) (b : Nat) (w : World) (h : RowAt w b 9 [.string name]) :
    Calls Tryd.prog 34 #[LabV x, .pointer (some ⟨b, 0, none⟩)] w fun e w' => e = .returned (.bool (isN name x)) ∧ Below w.heap.size w w' := by
  obtain ⟨n, v⟩ := x
  obtain ⟨c0, f0, l0⟩ := h.one
  go_enter Tryd.func34, Tryd.ntmps34
  go_wp2
  go_ret
  exact ⟨by simp [isN], (by repeat (first | exact Below.refl _ _ | assumption | (refine Below.setCell ?_ (by (first | omega | (simp; done) | (simp; omega) | (simp at *; omega))) _) | (refine Below.alloc ?_ (by (first | omega | (simp; done) | (simp; omega) | (simp at *; omega))) _) | (refine Below.drew ?_) | (refine Gr.into _ ?_ (by (first | omega | (simp; done) | (simp; omega) | (simp at *; omega))))))⟩
theorem egGet : ∀ args w, (callFunc 34 args).run Tryd.prog w = .ok (.enter 34 args) w := enters_of Tryd.func34 (by kernel_rfl) rfl
theorem index_none (p : Option Addr) (c : Nat) (lb : Array Value) (w : World) :
    Calls Tryd.prog 33 #[.slice p 0 c, .func (.func 34) #[] lb] w fun e w' => e = .returned (.int .i64 (-1)) ∧ Below w.heap.size w w' := by
  go_enter Tryd.func33, Tryd.ntmps33
  go_wp2
  refine wp_loop_rounds 1 ?_
  rw [rounds_succ]
  go_wp2
  go_ret
  exact ⟨rfl, Below.refl _ _⟩
theorem idx_find (p : BLab → Bool) : ∀ (L : List SLab) (k : Nat), (∃ i : Nat, ∃ h : i < L.length, Lib.idxByFrom (fun _ (y : SLab) => p y.1) default L k = ((k + i : Nat) : Int) ∧ (L.map (·.1)).find? p = some L[i].1) ∨ (Lib.idxByFrom (fun _ (y : SLab) => p y.1) default L k = -1 ∧ (L.map (·.1)).find? p = none)
  | [], k => .inr ⟨rfl, rfl⟩
  | x :: L, k => by
    unfold Lib.idxByFrom
    cases h : p x.1
    · simp only [Bool.false_eq_true, if_false, List.map_cons, List.find?_cons, h]
      rcases idx_find p L (k + 1) with ⟨i, hi, e1, e2⟩ | ⟨e1, e2⟩
      · exact .inl ⟨i + 1, by simp; omega, by rw [e1]; congr 1; omega, by rw [e2]; simp⟩
      · exact .inr ⟨e1, e2⟩
    · exact .inl ⟨0, by simp, by simp, by simp [h]⟩
theorem toS_map : ∀ (L : List BLab) (h : ∀ x ∈ L, x.1.size ≤ 1000000 ∧ x.2.size ≤ 1000000), (toS L h).map (·.1) = L
  | [], _ => rfl
  | x :: L, h => by simp [toS, toS_map L]
theorem index_any (a off cap : Nat) (L : List BLab) (name : ByteArray) (b : Nat) (w : World) (hs : ∀ x ∈ L, x.1.size ≤ 1000000 ∧ x.2.size ≤ 1000000) (hlen : L.length ≤ 1000000) (ha : a < w.heap.size)
    (hc : ∀ i (h : i < L.length), w.cell? ⟨a, off + i * 2, none⟩ = some (.string L[i].1) ∧ w.cell? ⟨a, off + i * 2 + 1, none⟩ = some (.string L[i].2)) (hb : RowAt w b 9 [.string name]) :
    Calls Tryd.prog 33 #[.slice (some ⟨a, off, none⟩) L.length cap, .func (.func 34) #[] #[.pointer (some ⟨b, 0, none⟩)]] w fun e w' =>
      ((∃ i : Nat, ∃ h : i < L.length, e = .returned (.int .i64 i) ∧ L.find? (isN name) = some L[i]) ∨ (e = .returned (.int .i64 (-1)) ∧ L.find? (isN name) = none)) ∧ Below w.heap.size w w' := by
  have hp : PredBelow Tryd.prog 34 #[.pointer (some ⟨b, 0, none⟩)] (fun x => .agg (encLab x).toArray) (fun x => isN name x.1) w := fun W x hbw => (isName_lab x.1 name b W (hb.below hbw hb.lt)).mono fun e w' ⟨h1, h2⟩ => ⟨h1, hbw.trans (h2.mono hbw.size)⟩
  have h := AnyQ.slices_IndexFunc Tryd.indexA 2 Tryd.isAgg37 Tryd.sizeOf37 encLab (fun _ => rfl) (fun x => isN name x.1) 34 #[.pointer (some ⟨b, 0, none⟩)] egGet a off L.length cap (toS L hs) w hp
    (by rw [toS_length]; exact Nat.le_refl _) (by omega) ha (fun j hj i v hi => by
      rw [toS_length] at hj
      have hg : (toS L hs)[j]! = (toS L hs)[j]'(by rw [toS_length]; exact hj) := getElem!_pos _ _ _
      have h1 := hc j hj
      have h2 := toS_get L hs j (by rw [toS_length]; exact hj) hj
      rw [hg] at hi
      rw [← h2] at h1
      match i, hi with
      | 0, hi => simp [encLab] at hi; rw [← hi]; exact h1.1
      | 1, hi => simp [encLab] at hi; rw [← hi]; exact h1.2
      | i + 2, hi => simp [encLab] at hi)
  rw [← toS_length L hs, List.take_length, toS_length] at h
  refine h.mono ?_
  rintro e w' ⟨rfl, hB⟩
  refine ⟨?_, hB⟩
  have hf := idx_find (isN name) (toS L hs) 0
  rw [toS_map] at hf
  unfold Lib.idxBy
  rcases hf with ⟨i, hi, e1, e2⟩ | ⟨e1, e2⟩
  · rw [toS_length] at hi
    refine .inl ⟨i, hi, by rw [e1, Nat.zero_add], ?_⟩
    rw [e2, toS_get L hs i _ hi]
  · exact .inr ⟨by rw [e1], e2⟩
/-- What Get tells. -/
def GetV (o : Option ByteArray) : Value := match o with
  | some v => .tuple #[.string v, .bool true]
  | none => .tuple #[.string ⟨#[]⟩, .bool false]
set_option maxRecDepth 100000 in
theorem get_any (v : Value) (L : List BLab) (name : ByteArray) (w : World) (hL : LabelsAt w.heap.size w v L) :
    Calls Tryd.prog 17 #[v, .string name] w fun e w' => e = .returned (GetV (getA L name)) ∧ Below w.heap.size w w' := by
  obtain ⟨n1, n2, h3⟩ := id hL
  unfold getA
  by_cases h0 : L = []
  · subst h0
    obtain ⟨p, c, rfl⟩ : ∃ p c, v = .slice p 0 c := by
      rcases h3 with ⟨a, rfl, -⟩ | ⟨a, off, cap, rfl, -⟩ <;> exact ⟨_, _, rfl⟩
    clear h3 n1 n2 hL
    go_enter Tryd.func17, Tryd.ntmps17
    go_wp2_with fail
    refine (index_none _ _ _ _).mono ?_
    rintro e w1 ⟨rfl, hB⟩
    go_wp2_with fail
    go_ret2
    exact ⟨rfl, ((Below.refl _ _).alloc (Nat.le_refl _) _).trans (hB.mono (by simp))⟩
  · obtain ⟨a, rfl, h⟩ | ⟨a, off, cap, rfl, ha, hcap, hc⟩ := h3
    · exact absurd h h0
    have hBa := (Below.refl w.heap.size w).alloc (Nat.le_refl _) (.cells #[.string name] 9)
    have hI := index_any a off cap L name w.heap.size (w.alloc (.cells #[.string name] 9)) n1 n2 (by simp; omega) (fun i hi => by rw [hBa.cell (by exact ha), hBa.cell (by exact ha)]; exact hc i hi) (RowAt.of_new _ _ _)
    clear hL
    generalize L.find? (isN name) = F at *
    go_enter Tryd.func17, Tryd.ntmps17
    go_wp2_with fail
    refine hI.mono ?_
    rintro e w1 ⟨⟨i, hi, rfl, hf⟩ | ⟨rfl, hf⟩, hB⟩
    · have hBw : Below w.heap.size w w1 := hBa.trans (hB.mono (by simp))
      obtain ⟨c0, c1⟩ := hc i hi
      rw [← hBw.cell (p := ⟨a, off + i * 2 + 1, none⟩) ha] at c1
      have hil : (i : Int) < L.length := by omega
      have hi0 : ¬ (i : Int) < 0 := by omega
      rcases hLi : L[i] with ⟨x1, x2⟩
      rw [hLi] at c1 hf
      subst hf
      clear hc hLi n1 n2 hI hBa hB
      go_wp2_with fail
      go_ret2
      exact ⟨rfl, hBw⟩
    · subst hf
      clear hI
      go_wp2_with fail
      go_ret2
      exact ⟨rfl, hBa.trans (hB.mono (by simp))⟩
end Go.Proofs.YtjhdgpboofcelaaDoor
