/- What came in: slices of two-cell structs of integers. No condition. -/
import Derived.Test.YtnoemopaplopdaaJ3
import Derived.Deep.SlicePairs
import Derived.ProofKit
import Derived.ChangeArms
namespace Go.Proofs.Ytnoemopaplopdaa
open Go.RowKit Go.Maps Go.ChangeShapes Go.WideShapes

theorem pairs_of {H : Type} {enc : TypeId × Value → H} {w : World} {t e : TypeId} {f0 f1 : Field} {k0 k1 : IntKind} {fuel : Nat} {p : Option Addr} {len cap : Nat} {x : DataW H × List MemPlace}
    (ht : Try.prog.underlying t = some (.slice e)) (he : Try.prog.underlying e = some (.struct #[f0, f1])) (ce : Try.prog.cellsOf e = 2) (o0 : f0.offset = 0) (o1 : f1.offset = 1) (c0 : Try.prog.cellsOf f0.type = 1) (c1 : Try.prog.cellsOf f1.type = 1)
    (u0 : Try.prog.underlying f0.type = some (.int k0)) (u1 : Try.prog.underlying f1.type = some (.int k1))
    (h : DataW.trod enc Try.prog w 0 (fun _ => true) true fuel t [.slice p len cap] = some x) :
    len ≤ cap ∧ ∃ Z : Nat → Int × Int, (∀ i, i < len → (Lit.int k0 (Z i).1).wf = true ∧ (Lit.int k1 (Z i).2).wf = true) ∧
      (0 < cap → ∃ a off, p = some ⟨a, off, none⟩ ∧ a < w.heap.size ∧ ∀ i, i < len → w.cell? ⟨a, off + i * 2, none⟩ = some (.int k0 (Z i).1) ∧ w.cell? ⟨a, off + i * 2 + 1, none⟩ = some (.int k1 (Z i).2)) := by
  rcases Go.Deep.open_slice_pairs ht he ce o0 o1 c0 c1 h with ⟨hcs, _⟩ | ⟨a, l, c, m, n, V0, V1, D0, D1, P0, P1, hcs, _, hl, hm, hmm, _, hx⟩
  · simp at hcs
    obtain ⟨rfl, rfl, rfl⟩ := hcs
    exact ⟨Nat.le_refl _, fun _ => (0, 0), fun i hi => by omega, fun h => by omega⟩
  · simp at hcs
    obtain ⟨rfl, rfl, rfl⟩ := hcs
    simp only [if_true] at hmm
    subst hmm
    obtain ⟨Z, hZ⟩ := Go.Deep.choose_lt (α := Int × Int) (p := fun i z => (V0 i = .int k0 z.1 ∧ V1 i = .int k1 z.2) ∧ (Lit.int k0 z.1).wf = true ∧ (Lit.int k1 z.2).wf = true) (n := len) fun i hi => by
      obtain ⟨-, -, t0, t1⟩ := hx i (by omega)
      obtain ⟨n0, e0, -, w0⟩ := DataW.trod_int u0 t0
      obtain ⟨n1, e1, -, w1⟩ := DataW.trod_int u1 t1
      exact ⟨(n0, n1), ⟨by simpa using e0, by simpa using e1⟩, w0, w1⟩
    refine ⟨hl, Z, fun i hi => (hZ i hi).2, fun h0 => ?_⟩
    obtain ⟨b, off, spot⟩ := a
    have hc0 := (hx 0 (by omega)).1
    have hspot : spot = none := by simpa [Addr.add] using World.cell?_spot hc0
    subst hspot
    have hb : b < w.heap.size := by
      rcases Nat.lt_or_ge b w.heap.size with h | h
      · exact h
      · simp [World.cell?, Addr.add, Array.getElem?_eq_none h] at hc0
    have hadd : ∀ i, (⟨b, off, none⟩ : Addr).add i = ⟨b, off + i, none⟩ := fun i => by by_cases h0 : i = 0 <;> simp [Addr.add, h0]
    refine ⟨b, off, rfl, hb, fun i hi => ?_⟩
    obtain ⟨g0, g1, -, -⟩ := hx i (by omega)
    obtain ⟨⟨e0, e1⟩, -⟩ := hZ i hi
    rw [hadd] at g0 g1
    rw [e0] at g0
    rw [e1] at g1
    exact ⟨g0, g1⟩
/-- The first N items of those that came in. -/
theorem items_few {H : Type} {enc : TypeId × Value → H} {w : World} {fuel : Nat} {p : Option Addr} {len cap : Nat} {x : DataW H × List MemPlace} (N : Nat) (hN : N ≤ 1000000)
    (h : DataW.trod enc Try.prog w 0 (fun _ => true) true fuel 46 [.slice p len cap] = some x) :
    len ≤ cap ∧ ∃ J : List (Nat × Nat), J.length = min len N ∧ ItemsAt w.heap.size w (.slice p J.length cap) J := by
  obtain ⟨hl, Z, hw, hc⟩ := pairs_of Try.underlying46 Try.underlying50 (by kernel_rfl) rfl rfl (by kernel_rfl) (by kernel_rfl) Try.underlying22 Try.underlying22 h
  refine ⟨hl, (List.range (min len N)).map fun i => ((Z i).1.toNat, (Z i).2.toNat), by simp, ?_, by simp; omega, p, cap, rfl, by simp; omega, fun hne => ?_⟩
  · intro b hb
    obtain ⟨i, hi, rfl⟩ := List.mem_map.1 hb
    obtain ⟨w0, w1⟩ := hw i (by have := List.mem_range.1 hi; omega)
    have b0 := bounds_u64 w0
    have b1 := bounds_u64 w1
    exact ⟨by show (Z i).1.toNat < _; omega, by show (Z i).2.toNat < _; omega⟩
  · have hpos : 0 < min len N := by
      rcases Nat.eq_zero_or_pos (min len N) with h | h
      · rw [h] at hne; simp at hne
      · exact h
    obtain ⟨a, off, e1, e2, e3⟩ := hc (by omega)
    refine ⟨a, off, e1, e2, fun i hi => ?_⟩
    have hi2 : i < min len N := by simpa using hi
    obtain ⟨g0, g1⟩ := e3 i (by omega)
    obtain ⟨w0, w1⟩ := hw i (by omega)
    have b0 := bounds_u64 w0
    have b1 := bounds_u64 w1
    rw [g0, g1]
    simp only [List.getElem_map, List.getElem_range, Option.some.injEq, Value.int.injEq, true_and]
    omega
/-- The first N bins of those that came in. -/
theorem bins_few {H : Type} {enc : TypeId × Value → H} {w : World} {fuel : Nat} {p : Option Addr} {len cap : Nat} {x : DataW H × List MemPlace} (N : Nat) (hN : N ≤ 1000000)
    (h : DataW.trod enc Try.prog w 0 (fun _ => true) true fuel 23 [.slice p len cap] = some x) :
    len ≤ cap ∧ ∃ L : List (Int × Nat), L.length = min len N ∧ BinsAt w.heap.size w (.slice p L.length cap) L := by
  obtain ⟨hl, Z, hw, hc⟩ := pairs_of Try.underlying23 Try.underlying65 (by kernel_rfl) rfl rfl (by kernel_rfl) (by kernel_rfl) Try.underlying3 Try.underlying22 h
  have e1 : IntKind.i64.min = -9223372036854775808 := by decide +kernel
  have e2 : IntKind.i64.max = 9223372036854775807 := by decide +kernel
  refine ⟨hl, (List.range (min len N)).map fun i => ((Z i).1, (Z i).2.toNat), by simp, ?_, by simp; omega, ?_⟩
  · intro b hb
    obtain ⟨i, hi, rfl⟩ := List.mem_map.1 hb
    obtain ⟨w0, w1⟩ := hw i (by have := List.mem_range.1 hi; omega)
    have b1 := bounds_u64 w1
    simp only [Lit.wf, e1, e2, Bool.and_eq_true, decide_eq_true_eq] at w0
    exact ⟨w0.1, w0.2, by show (Z i).2.toNat < _; omega⟩
  · by_cases h0 : cap = 0
    · obtain rfl : len = 0 := by omega
      subst h0
      exact .inl ⟨p, by simp, by simp⟩
    · obtain ⟨a, off, rfl, q2, q3⟩ := hc (by omega)
      refine .inr ⟨a, off, cap, rfl, q2, by simp; omega, fun i hi => ?_⟩
      have hi2 : i < min len N := by simpa using hi
      obtain ⟨g0, g1⟩ := q3 i (by omega)
      obtain ⟨w0, w1⟩ := hw i (by omega)
      have b1 := bounds_u64 w1
      rw [g0, g1]
      simp only [List.getElem_map, List.getElem_range, Option.some.injEq, Value.int.injEq, true_and]
      omega
theorem hist_few {H : Type} {enc : TypeId × Value → H} {w : World} {fuel : Nat} {u : Value} {x : DataW H × List MemPlace} (N : Nat) (hN : N ≤ 1000000)
    (h : DataW.trod enc Try.prog w 0 (fun _ => true) true fuel 23 [u] = some x) :
    ∃ p len cap, u = .slice p len cap ∧ len ≤ cap ∧ ∃ L : List (Int × Nat), L.length = min len N ∧ BinsAt w.heap.size w (.slice p L.length cap) L := by
  obtain ⟨p, len, cap, rfl⟩ : ∃ p len cap, u = .slice p len cap := by
    rcases DataW.trod_slice Try.underlying23 h with h0 | ⟨a, len, cap, _, _, _, _, hcs, _⟩
    · exact ⟨_, _, _, by simpa using h0.1⟩
    · exact ⟨_, _, _, by simpa using hcs⟩
  exact ⟨p, len, cap, rfl, bins_few N hN h⟩
end Go.Proofs.Ytnoemopaplopdaa
