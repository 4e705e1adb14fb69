/- The law's own helpers: shown, few, Few. -/
import Derived.Test.YtngahohheleeeaaDoorHQ
namespace Go.Proofs.YtngahohheleeeaaDoor
open Go.RowKit

theorem shown_any (w : World) :
    Calls Tryd.prog 5 #[] w fun e w' => e = .returned (.bool true) ∧ Below w.heap.size w w' := by
  have p1 : ∀ w : World, Calls Tryd.prog 18 #[.int .i64 3, .int .u64 9223372036854775808] w fun e w' => e = .returned (.tuple #[.int .i64 4, .int .i64 62]) ∧ Below w.heap.size w w' := fun w => by
    have := place_nat 3 9223372036854775808 w (by decide) (by decide +kernel)
    rwa [show atN 3 9223372036854775808 = 4 by decide +kernel, show rankN 3 9223372036854775808 = 62 by decide +kernel] at this
  have p2 : ∀ w : World, Calls Tryd.prog 18 #[.int .i64 3, .int .u64 3458764513820540928] w fun e w' => e = .returned (.tuple #[.int .i64 1, .int .i64 1]) ∧ Below w.heap.size w w' := fun w => by
    have := place_nat 3 3458764513820540928 w (by decide) (by decide +kernel)
    rwa [show atN 3 3458764513820540928 = 1 by decide +kernel, show rankN 3 3458764513820540928 = 1 by decide +kernel] at this
  have p3 : ∀ w : World, Calls Tryd.prog 9 #[.int .i64 9] w fun e w' => e = hllRes 0 ⟨#[]⟩ 70 ∧ Below w.heap.size w w' := fun w => new_no 9 w (by decide)
  obtain ⟨X, hX⟩ : ∃ X, X = addRegs 3 (noRegs 3) [9223372036854775808] := ⟨_, rfl⟩
  have p4 : ∀ (w : World) (k : Nat), k = w.heap.size → Calls Tryd.prog 6 #[.int .i64 3, .slice (some ⟨k, 0, none⟩) 1 1] (w.alloc (.cells #[.int .u64 9223372036854775808] 23)) fun e w' =>
      e = hllRes 3 ⟨X.toArray⟩ 0 ∧ Below (w.alloc (.cells #[.int .u64 9223372036854775808] 23)).heap.size (w.alloc (.cells #[.int .u64 9223372036854775808] 23)) w' := fun w k hk => by
    rw [hX]
    exact of_yes 3 _ [9223372036854775808] _ (by decide) (U64s.one _ 9223372036854775808 _ (by decide +kernel) _ hk)
  have p5 : ∀ w : World, Calls Tryd.prog 11 #[.agg #[.int .i64 3, .string ⟨X.toArray⟩]] w fun e w' => e = .returned (.bool true) ∧ Below w.heap.size w w' := fun w => by
    have := right_any 3 ⟨X.toArray⟩ w
    rwa [show rightB 3 (⟨X.toArray⟩ : ByteArray).data.toList = true by rw [hX]; exact rightB_addRegs _ (noRegs_right 3 (by decide))] at this
  clear hX
  go_enter Tryd.func5, Tryd.ntmps5
  go_wp2_with fail
  refine Calls.mono (Calls.gr0 (p1 _)) ?_
  rintro e w' ⟨rfl, g, rfl⟩
  go_wp2_with fail
  refine Calls.mono (Calls.gr (p2 _)) ?_
  rintro e w' ⟨rfl, g2, rfl⟩
  clear g
  go_wp2_with fail
  refine Calls.mono (Calls.gr (p3 _)) ?_
  rintro e w' ⟨rfl, g, rfl⟩
  clear g2
  go_wp2_with fail
  refine Calls.mono (Calls.gr0 (p4 _ _ (by simp))) ?_
  rintro e w' ⟨rfl, g2, rfl⟩
  go_wp2_with fail
  refine Calls.mono (Calls.gr0 (p5 _)) ?_
  rintro e w' ⟨rfl, g3, rfl⟩
  go_wp2
  go_ret
  have h1 := g.le
  have h2 := g2.le
  have h3 := g3.le
  simp only [World.size_alloc] at h2 h3
  exact ⟨rfl, (by repeat (first | exact Below.refl _ _ | assumption | (refine Below.setCell ?_ (by (first | omega | (simp; done) | (simp; omega) | (simp at *; omega))) _) | (refine Below.alloc ?_ (by (first | omega | (simp; done) | (simp; omega) | (simp at *; omega))) _) | (refine Below.drew ?_) | (refine Gr.into _ ?_ (by (first | omega | (simp; done) | (simp; omega) | (simp at *; omega))))))⟩

/-- A slice of numbers that came in. -/
theorem u64s_of {w : World} {a : Option Addr} {len cap : Nat} {zs : List Int} (h : (a = none ∧ len = 0 ∧ cap = 0 ∧ zs = []) ∨
    ∃ x, a = some x ∧ len ≤ cap ∧ cap ≤ maxLen ∧ zs.length = cap ∧ (∀ i, i < zs.length → w.cell? (x.add i) = some (.int .u64 (zs.getD i 0))) ∧ ∀ n ∈ zs, (Lit.int .u64 n).wf = true) :
    ∃ xs : List Nat, U64s w.heap.size w (.slice a len cap) xs ∧ xs.length = len := by
  rcases h with ⟨rfl, rfl, rfl, rfl⟩ | ⟨x, rfl, hl, hm, hz, hc, hw⟩
  · exact ⟨[], ⟨by simp, by simp, .inl ⟨none, rfl, rfl⟩⟩, rfl⟩
  · by_cases h0 : cap = 0
    · subst h0
      obtain rfl : len = 0 := by omega
      exact ⟨[], ⟨by simp, by simp, .inl ⟨_, rfl, rfl⟩⟩, rfl⟩
    · obtain ⟨b, off, spot⟩ := x
      have hc0 := hc 0 (by omega)
      have hspot : spot = none := by simpa [Addr.add] using World.cell?_spot hc0
      subst hspot
      have hb : b < w.heap.size := by
        rcases Nat.lt_or_ge b w.heap.size with h | h
        · exact h
        · simp [World.cell?, Addr.add, Array.getElem?_eq_none h] at hc0
      have hadd : ∀ i, (⟨b, off, none⟩ : Addr).add i = ⟨b, off + i, none⟩ := fun i => by by_cases h0 : i = 0 <;> simp [Addr.add, h0]
      have hbd : ∀ n ∈ zs, 0 ≤ n ∧ n < 2 ^ 64 := fun n hn => by
        have := bounds_u64 (hw n hn)
        omega
      have hlz : len ≤ zs.length := by omega
      refine ⟨(zs.take len).map Int.toNat, ⟨?_, by simp; unfold maxLen at hm; omega, .inr ⟨b, off, cap, by simp [hlz], hb, by simp; omega, fun i hi => ?_⟩⟩, by simp [hlz]⟩
      · intro z hzm
        obtain ⟨n, hn, rfl⟩ := List.mem_map.1 hzm
        have := hbd n (List.mem_of_mem_take hn)
        omega
      · have hi2 : i < zs.length := by simp at hi; omega
        have := hc i hi2
        rw [hadd] at this
        rw [this]
        have h3 := hbd zs[i] (List.getElem_mem hi2)
        simp [List.getD, hi2]
        omega
theorem few_any (B : Nat) (v : Value) (zs : List Nat) (w : World) (h : U64s B w v zs) :
    Calls Tryd.prog 7 #[v] w fun e w' => (∃ u, e = .returned u ∧ U64s B w u (zs.take 100)) ∧ w = w' := by
  obtain ⟨h1, h2, ⟨a, rfl, rfl⟩ | ⟨a, off, cap, rfl, h3, hc, h4⟩⟩ := h
  · have e : (min (0 : Int) 100).toNat = 0 := by decide
    rcases a with _ | a
    · go_enter Tryd.func7, Tryd.ntmps7
      go_wp2
      go_ret
      exact ⟨⟨.slice none 0 0, by show Ending.returned (Value.slice none (min (0 : Int) 100).toNat 0) = _; rw [e], by simp, by simp, .inl ⟨_, rfl, by simp⟩⟩, rfl⟩
    · go_enter Tryd.func7, Tryd.ntmps7
      go_wp2
      go_ret
      exact ⟨⟨.slice (some a) 0 0, by show Ending.returned (Value.slice (some a) (min (0 : Int) 100).toNat 0) = _; rw [e], by simp, by simp, .inl ⟨_, rfl, by simp⟩⟩, rfl⟩
  · go_enter Tryd.func7, Tryd.ntmps7
    go_wp2
    go_ret
    have e : (min (zs.length : Int) 100).toNat = (zs.take 100).length := by simp; omega
    refine ⟨⟨_, rfl, fun z hz => h1 z (List.mem_of_mem_take hz), by simp; omega, .inr ⟨a, off, cap, ?_, h3, by simp; omega, fun i hi => ?_⟩⟩, rfl⟩
    · rw [← e]; rfl
    · rw [h4 i (by simp at hi; omega)]; simp
end Go.Proofs.YtngahohheleeeaaDoor
