/- The laws of layer 4: labels that came in; Few. -/
import Derived.Test.YtjhdgpboofcelaaDoorLB
import Derived.Deep.AppendLies
import Derived.Test.YtjhdgpboofcelaaDoorFreeB
import Derived.Deep.SlicePairs
import Derived.ProofKit
import Derived.ChangeArms
namespace Go.Proofs.YtjhdgpboofcelaaDoor
open Go.RowKit Go.ChangeShapes Go.WideShapes

/-- Labels that came in, the first few. -/
def CameAt (w : World) (p : Option Addr) (J : List BLab) : Prop :=
  (∀ x ∈ J, x.1.size ≤ maxLen ∧ x.2.size ≤ maxLen) ∧ (J ≠ [] → ∃ a off, p = some ⟨a, off, none⟩ ∧ a < w.heap.size ∧ ∀ i (h : i < J.length), w.cell? ⟨a, off + i * 2, none⟩ = some (.string J[i].1) ∧ w.cell? ⟨a, off + i * 2 + 1, none⟩ = some (.string J[i].2))
theorem came_below {w W : World} {p : Option Addr} {J : List BLab} (h : CameAt w p J) (hb : Below w.heap.size w W) : CameAt W p J := by
  obtain ⟨h1, h2⟩ := h
  refine ⟨h1, fun hne => ?_⟩
  obtain ⟨a, off, e1, e2, e3⟩ := h2 hne
  refine ⟨a, off, e1, Nat.lt_of_lt_of_le e2 hb.size, fun i hi => ?_⟩
  rw [hb.cell (by exact e2), hb.cell (by exact e2)]
  exact e3 i hi
theorem strings_of {H : Type} {enc : TypeId × Value → H} {w : World} {t e : TypeId} {f0 f1 : Field} {fuel : Nat} {p : Option Addr} {len cap : Nat} {x : DataW H × List MemPlace}
    (ht : Tryd.prog.underlying t = some (.slice e)) (he : Tryd.prog.underlying e = some (.struct #[f0, f1])) (ce : Tryd.prog.cellsOf e = 2) (o0 : f0.offset = 0) (o1 : f1.offset = 1) (c0 : Tryd.prog.cellsOf f0.type = 1) (c1 : Tryd.prog.cellsOf f1.type = 1)
    (u0 : Tryd.prog.underlying f0.type = some .string) (u1 : Tryd.prog.underlying f1.type = some .string)
    (h : DataW.trod enc Tryd.prog w 0 (fun _ => true) true fuel t [.slice p len cap] = some x) :
    len ≤ cap ∧ ∃ Z : Nat → BLab, (∀ i, i < len → (Z i).1.size ≤ maxLen ∧ (Z i).2.size ≤ maxLen) ∧
      (0 < cap → ∃ a off, p = some ⟨a, off, none⟩ ∧ a < w.heap.size ∧ ∀ i, i < len → w.cell? ⟨a, off + i * 2, none⟩ = some (.string (Z i).1) ∧ w.cell? ⟨a, off + i * 2 + 1, none⟩ = some (.string (Z i).2)) := by
  rcases Go.Deep.open_slice_pairs ht he ce o0 o1 c0 c1 h with ⟨hcs, _⟩ | ⟨a, l, c, m, n, V0, V1, D0, D1, P0, P1, hcs, _, hl, hm, hmm, _, hx⟩
  · simp at hcs
    obtain ⟨rfl, rfl, rfl⟩ := hcs
    exact ⟨Nat.le_refl _, fun _ => (⟨#[]⟩, ⟨#[]⟩), fun i hi => by omega, fun h => by omega⟩
  · simp at hcs
    obtain ⟨rfl, rfl, rfl⟩ := hcs
    simp only [if_true] at hmm
    subst hmm
    obtain ⟨Z, hZ⟩ := Go.Deep.choose_lt (α := BLab) (p := fun i z => (V0 i = .string z.1 ∧ V1 i = .string z.2) ∧ z.1.size ≤ maxLen ∧ z.2.size ≤ maxLen) (n := len) fun i hi => by
      obtain ⟨-, -, t0, t1⟩ := hx i (by omega)
      obtain ⟨n0, e0, -, w0⟩ := DataW.trod_string u0 t0
      obtain ⟨n1, e1, -, w1⟩ := DataW.trod_string u1 t1
      exact ⟨(n0, n1), ⟨by simpa using e0, by simpa using e1⟩, w0, w1⟩
    refine ⟨hl, Z, fun i hi => (hZ i hi).2, fun h0 => ?_⟩
    obtain ⟨b, off, spot⟩ := a
    have hc0 := (hx 0 (by omega)).1
    have hspot : spot = none := by simpa [Addr.add] using World.cell?_spot hc0
    subst hspot
    have hb : b < w.heap.size := by
      rcases Nat.lt_or_ge b w.heap.size with h | h
      · exact h
      · simp [World.cell?, Addr.add, Array.getElem?_eq_none h] at hc0
    have hadd : ∀ i, (⟨b, off, none⟩ : Addr).add i = ⟨b, off + i, none⟩ := fun i => by by_cases h0 : i = 0 <;> simp [Addr.add, h0]
    refine ⟨b, off, rfl, hb, fun i hi => ?_⟩
    obtain ⟨g0, g1, -, -⟩ := hx i (by omega)
    obtain ⟨⟨e0, e1⟩, -⟩ := hZ i hi
    rw [hadd] at g0 g1
    rw [e0] at g0
    rw [e1] at g1
    exact ⟨g0, g1⟩
/-- The first N labels of those that came in. -/
theorem labels_few {H : Type} {enc : TypeId × Value → H} {w : World} {fuel : Nat} {p : Option Addr} {len cap : Nat} {x : DataW H × List MemPlace} (N : Nat) (_ : N ≤ 1000000)
    (h : DataW.trod enc Tryd.prog w 0 (fun _ => true) true fuel 29 [.slice p len cap] = some x) :
    len ≤ cap ∧ ∃ J : List BLab, J.length = min len N ∧ CameAt w p J := by
  obtain ⟨hl, Z, hw, hc⟩ := strings_of Tryd.underlying29 Tryd.underlying37 (by kernel_rfl) rfl rfl (by kernel_rfl) (by kernel_rfl) Tryd.underlying9 Tryd.underlying9 h
  refine ⟨hl, (List.range (min len N)).map Z, by simp, ?_, fun hne => ?_⟩
  · intro b hb
    obtain ⟨i, hi, rfl⟩ := List.mem_map.1 hb
    exact hw i (by have := List.mem_range.1 hi; omega)
  · have hpos : 0 < min len N := by
      rcases Nat.eq_zero_or_pos (min len N) with h | h
      · rw [h] at hne; simp at hne
      · exact h
    obtain ⟨a, off, e1, e2, e3⟩ := hc (by omega)
    refine ⟨a, off, e1, e2, fun i hi => ?_⟩
    have hi2 : i < min len N := by simpa using hi
    simp only [List.getElem_map, List.getElem_range]
    exact e3 i (by omega)

/-- A label, cut. -/
def cutLab (x : BLab) : BLab := (x.1.extract 0 (min x.1.size 20), x.2.extract 0 (min x.2.size 120))
theorem cutLab_size (x : BLab) : (cutLab x).1.size ≤ 20 ∧ (cutLab x).2.size ≤ 120 := by
  unfold cutLab
  simp only [ByteArray.size_extract]
  omega
theorem labels_of_own (w : World) (B M : Nat) (v : Value) (n : Nat) (L : List BLab) (h : w.ownsRow M 37 2 v n (labCells L)) (hn : n = L.length) (hB : w.heap.size ≤ B) (hs : ∀ x ∈ L, x.1.size ≤ 1000000 ∧ x.2.size ≤ 1000000) (hl : L.length ≤ 1000000) : LabelsAt B w v L := by
  subst hn
  refine ⟨hs, hl, ?_⟩
  rcases Nat.eq_zero_or_pos L.length with h0 | h0
  · obtain rfl : L = [] := List.eq_nil_of_length_eq_zero h0
    obtain ⟨-, ⟨rfl, -⟩ | ⟨g, cap, cur, rfl, h2, h3, -⟩⟩ := h
    · exact .inl ⟨_, rfl, rfl⟩
    · have hg : g < w.heap.size := (Array.getElem?_eq_some_iff.1 h3).1
      exact .inr ⟨g, 0, cap, rfl, by omega, Nat.zero_le _, fun i hi => by cases hi⟩
  · obtain ⟨g, cap, rfl, h2, h3⟩ := World.ownsRow.form h h0
    have hcap := labels_own _ _ _ _ _ h
    refine .inr ⟨g, 0, cap, rfl, by omega, hcap, fun i hi => ?_⟩
    obtain ⟨g1, g2⟩ := labCells_get L i hi
    have c1 := World.ownsRow.cellAt h (i * 2) (by omega)
    have c2 := World.ownsRow.cellAt h (i * 2 + 1) (by omega)
    rw [g1] at c1
    rw [g2] at c2
    rw [Nat.zero_add]
    exact ⟨c1, c2⟩

set_option maxRecDepth 100000 in
set_option maxHeartbeats 1000000 in
theorem few_any (p : Option Addr) (len cap : Nat) (J : List BLab) (w : World) (hn : J.length = min len 10) (hc : CameAt w p J) :
    Calls Tryd.prog 9 #[.slice p len cap] w fun e w' => Below w.heap.size w w' ∧ ∃ v, e = .returned v ∧ LabelsAt w'.heap.size w' v (J.map cutLab) := by
  obtain ⟨hs, hc⟩ := hc
  have HS := Lib.hid hs
  have HN := Lib.hid hn
  clear hs hn
  go_enter Tryd.func9, Tryd.ntmps9
  go_wp2
  go_loopw [3, 4] (fun o i wr => ∃ k : Nat, k ≤ J.length ∧ i = .int .i64 k ∧ wr.ownsRow w.heap.size 37 2 o k (labCells ((J.map cutLab).take k)) ∧ Below w.heap.size w wr)
    (fun _ i _ => J.length - (intOf i).toNat)
  case atStart => exact ⟨0, by omega, rfl, World.ownsRow_nil _ _ _ _, Below.refl _ _⟩
  case round =>
    obtain ⟨k, hk, rfl, hown, hB⟩ := hrel
    have hBs := hB.size
    by_cases hkJ : k < J.length
    · have hkl : (k : Int) < len := by have := HN.out; omega
      have hk10 : (k : Int) < 10 := by have := HN.out; omega
      obtain ⟨a, off, rfl, ha, hcc⟩ := hc (by rintro rfl; simp at hkJ)
      obtain ⟨hc0, hc1⟩ := hcc k hkJ
      rw [← hB.cell (p := ⟨a, off + k * 2, none⟩) ha] at hc0
      rw [← hB.cell (p := ⟨a, off + k * 2 + 1, none⟩) ha] at hc1
      have hal : a < wr.heap.size := Nat.lt_of_lt_of_le ha hB.size
      have hs1 : (J.map cutLab).take (k + 1) = (J.map cutLab).take k ++ [cutLab J[k]] := by
        rw [List.take_succ_eq_append_getElem (by simpa using hkJ)]
        simp
      have hsz := HS.out J[k] (List.getElem_mem _)
      rcases hJk : J[k] with ⟨x1, x2⟩
      rw [hJk] at hc0 hc1 hs1 hsz
      have H1 := Lib.hid hs1
      have HZ := Lib.hid hsz
      clear hs1 hc hcc hsz
      go_wp2
      refine wp_region_gr_free 0 31 [29, 30] (by kernel_rfl) (by kernel_rfl) ?_
      simp only [List.take_succ_cons, List.take_zero]
      repeat (go_big_quiet_step (first | fail))
      refine wpQuiet_nil ?_
      intro g
      have hgl := g.le
      refine wpAnyC_pureL 0 (by kernel_rfl) ?_
      simp only [List.drop_succ_cons, List.drop_zero, List.take_succ_cons, List.take_zero]
      go_big_quiet_step (first | fail)
      refine wpQuiet_nil ?_
      refine wpAnyC_pureL 1 (by kernel_rfl) ?_
      simp only [List.drop_succ_cons, List.drop_zero, List.take_succ_cons, List.take_zero]
      go_big_quiet_step (first | fail)
      refine wpQuiet_nil ?_
      refine wpAnyC_pureL 2 (by kernel_rfl) ?_
      simp only [List.drop_succ_cons, List.drop_zero, List.take_succ_cons, List.take_zero]
      go_big_quiet_step (first | fail)
      refine wpQuiet_nil ?_
      refine wpAnyC_pureL 3 (by kernel_rfl) ?_
      simp only [List.drop_succ_cons, List.drop_zero, List.take_succ_cons, List.take_zero]
      go_big_quiet_step (first | fail)
      refine wpQuiet_nil ?_
      refine wpAnyC_pureL 4 (by kernel_rfl) ?_
      simp only [List.drop_succ_cons, List.drop_zero, List.take_succ_cons, List.take_zero]
      go_big_quiet_step (first | fail)
      refine wpQuiet_nil ?_
      refine wpAnyC_readL 5 (⟨g, rfl⟩) (by kernel_rfl) ?_
      simp only [List.drop_succ_cons, List.drop_zero, List.take_succ_cons, List.take_zero]
      go_big_quiet_step (first | fail)
      refine wpQuiet_nil ?_
      refine wpAnyC_pureL 6 (by kernel_rfl) ?_
      simp only [List.drop_succ_cons, List.drop_zero, List.take_succ_cons, List.take_zero]
      go_big_quiet_step (first | fail)
      refine wpQuiet_nil ?_
      refine wpAnyC_pureL 7 (by kernel_rfl) ?_
      simp only [List.drop_succ_cons, List.drop_zero, List.take_succ_cons, List.take_zero]
      go_big_quiet_step (first | fail)
      refine wpQuiet_nil ?_
      refine wpAnyC_pureL 8 (by kernel_rfl) ?_
      simp only [List.drop_succ_cons, List.drop_zero, List.take_succ_cons, List.take_zero]
      go_big_quiet_step (first | fail)
      refine wpQuiet_nil ?_
      refine wpAnyC_pureL 9 (by kernel_rfl) ?_
      simp only [List.drop_succ_cons, List.drop_zero, List.take_succ_cons, List.take_zero]
      go_big_quiet_step (first | fail)
      refine wpQuiet_nil ?_
      refine wpAnyC_readL 10 (⟨g, rfl⟩) (by kernel_rfl) ?_
      simp only [List.drop_succ_cons, List.drop_zero, List.take_succ_cons, List.take_zero]
      go_big_quiet_step (first | fail)
      refine wpQuiet_nil ?_
      refine wpAnyC_readB 11 (⟨g, rfl⟩) (by kernel_rfl) ?_
      simp only [List.drop_succ_cons, List.drop_zero, List.take_succ_cons, List.take_zero]
      go_big_quiet_step (first | fail)
      refine wpQuiet_nil ?_
      refine wpAnyC_readB 12 (⟨g, rfl⟩) (by kernel_rfl) ?_
      simp only [List.drop_succ_cons, List.drop_zero, List.take_succ_cons, List.take_zero]
      go_big_quiet_step (first | fail)
      refine wpQuiet_nil ?_
      refine wpAnyC_pureL 13 (by kernel_rfl) ?_
      simp only [List.drop_succ_cons, List.drop_zero, List.take_succ_cons, List.take_zero]
      go_big_quiet_step (first | fail)
      refine wpQuiet_nil ?_
      refine wpAnyC_pureL 14 (by kernel_rfl) ?_
      simp only [List.drop_succ_cons, List.drop_zero, List.take_succ_cons, List.take_zero]
      go_big_quiet_step (first | fail)
      refine wpQuiet_nil ?_
      refine wpAnyC_pureL 15 (by kernel_rfl) ?_
      simp only [List.drop_succ_cons, List.drop_zero, List.take_succ_cons, List.take_zero]
      go_big_quiet_step (first | fail)
      refine wpQuiet_nil ?_
      refine wpAnyC_pureL 16 (by kernel_rfl) ?_
      simp only [List.drop_succ_cons, List.drop_zero, List.take_succ_cons, List.take_zero]
      go_big_quiet_step (first | fail)
      refine wpQuiet_nil ?_
      refine wpAnyC_pureL 17 (by kernel_rfl) ?_
      simp only [List.drop_succ_cons, List.drop_zero, List.take_succ_cons, List.take_zero]
      go_big_quiet_step (first | fail)
      refine wpQuiet_nil ?_
      refine wpAnyC_readL 18 (⟨g, rfl⟩) (by kernel_rfl) ?_
      simp only [List.drop_succ_cons, List.drop_zero, List.take_succ_cons, List.take_zero]
      go_big_quiet_step (first | fail)
      refine wpQuiet_nil ?_
      refine wpAnyC_pureL 19 (by kernel_rfl) ?_
      simp only [List.drop_succ_cons, List.drop_zero, List.take_succ_cons, List.take_zero]
      go_big_quiet_step (first | fail)
      refine wpQuiet_nil ?_
      refine wpAnyC_pureL 20 (by kernel_rfl) ?_
      simp only [List.drop_succ_cons, List.drop_zero, List.take_succ_cons, List.take_zero]
      go_big_quiet_step (first | fail)
      refine wpQuiet_nil ?_
      refine wpAnyC_pureL 21 (by kernel_rfl) ?_
      simp only [List.drop_succ_cons, List.drop_zero, List.take_succ_cons, List.take_zero]
      go_big_quiet_step (first | fail)
      refine wpQuiet_nil ?_
      refine wpAnyC_pureL 22 (by kernel_rfl) ?_
      simp only [List.drop_succ_cons, List.drop_zero, List.take_succ_cons, List.take_zero]
      go_big_quiet_step (first | fail)
      refine wpQuiet_nil ?_
      refine wpAnyC_readL 23 (⟨g, rfl⟩) (by kernel_rfl) ?_
      simp only [List.drop_succ_cons, List.drop_zero, List.take_succ_cons, List.take_zero]
      go_big_quiet_step (first | fail)
      refine wpQuiet_nil ?_
      refine wpAnyC_readB 24 (⟨g, rfl⟩) (by kernel_rfl) ?_
      simp only [List.drop_succ_cons, List.drop_zero, List.take_succ_cons, List.take_zero]
      go_big_quiet_step (first | fail)
      refine wpQuiet_nil ?_
      refine wpAnyC_readB 25 (⟨g, rfl⟩) (by kernel_rfl) ?_
      simp only [List.drop_succ_cons, List.drop_zero, List.take_succ_cons, List.take_zero]
      go_big_quiet_step (first | fail)
      refine wpQuiet_nil ?_
      refine wpAnyC_pureL 26 (by kernel_rfl) ?_
      simp only [List.drop_succ_cons, List.drop_zero, List.take_succ_cons, List.take_zero]
      go_big_quiet_step (first | fail)
      refine wpQuiet_nil ?_
      refine wpAnyC_pureL 27 (by kernel_rfl) ?_
      simp only [List.drop_succ_cons, List.drop_zero, List.take_succ_cons, List.take_zero]
      go_big_quiet_step (first | fail)
      refine wpQuiet_nil ?_
      refine wpAnyC_one 28 rfl rfl (by kernel_rfl) (fun K hK => ?_)
      go_wp2
      refine hK _ _ (.inr (Gr.of (g.below.alloc hgl _))) ?_
      refine wpAnyC_one 29 rfl rfl (by kernel_rfl) (fun K hK => ?_)
      rw [show (min (x1.size : Int) 20).toNat = min x1.size 20 by omega, show (min (x2.size : Int) 120).toNat = min x2.size 120 by omega]
      have hcut : cutLab (x1, x2) = (x1.extract 0 (min x1.size 20), x2.extract 0 (min x2.size 120)) := rfl
      generalize x1.extract 0 (min x1.size 20) = y1 at *
      generalize x2.extract 0 (min x2.size 120) = y2 at *
      have HC := Lib.hid hcut
      clear hcut
      have hrow : RowAt (g.world.alloc (.cells #[.string y1, .string y2] 37)) g.world.heap.size 37 [.string y1, .string y2] := RowAt.of_new _ _ _
      obtain ⟨i0, hi, hz0, hz1, hz2⟩ := info_parts (show (Tryd.prog.info? 37).map (fun i => (i.zero, i.size, i.bytes)) = some (some (.agg #[.string ⟨#[]⟩, .string ⟨#[]⟩]), 2, 32) by kernel_rfl)
      refine wp_append_own _ (.tmp 15) (.tmp 43) 29 rfl w.heap.size 37 i0 (.agg #[.string ⟨#[]⟩, .string ⟨#[]⟩]) 2 32 Tryd.underlying29 hi hz0 hz1 hz2 rfl (by omega) _ k _ rfl (World.ownsRow.alloc (ownsRow_below hown g.below) _) ⟨g.world.heap.size, 0, none⟩ 1 1 [.string y1, .string y2] rfl rfl
        (fun j x hj => by
          obtain ⟨hlt, rfl⟩ := List.getElem?_eq_some_iff.1 hj
          have e : (⟨g.world.heap.size, 0, none⟩ : Addr).add j = ⟨g.world.heap.size, j, none⟩ := by by_cases h0 : j = 0 <;> simp [Addr.add, h0]
          rw [e]; exact hrow.cell j hlt)
        (fun x hx => by simp at hx; rcases hx with rfl | rfl <;> rfl) (by unfold maxLen; omega) (by omega) (by simp; omega) ?_
      intro v' Y hownY hgY _
      have hnb : ∀ g', (u3 : Value).ownBlock = some g' → w.heap.size ≤ g' := by
        intro g' hg
        obtain ⟨-, ⟨rfl, -⟩ | ⟨g2, cap', cur, rfl, h3, -⟩⟩ := hown
        · cases hg
        · cases hg; exact h3
      have hBY : Below w.heap.size w Y := ((hB.trans (g.below.mono hBs)).alloc (by omega) _).grown hgY (by simp; omega) (fun k e => hnb k e)
      have hownY' : Y.ownsRow w.heap.size 37 2 v' (k + 1) (labCells ((J.map cutLab).take (k + 1))) := by
        rw [H1.out, labCells_append, HC.out]; exact hownY
      refine hK _ _ (.inl rfl) ?_
      refine wpAnyC_one 30 rfl rfl (by kernel_rfl) (fun K hK => ?_)
      go_wp2
      refine hK _ _ (.inl rfl) ?_
      refine wpAnyC_end (by kernel_rfl) ?_
      go_wp2
      go_roundw
      case rel => exact ⟨k + 1, by omega, by go_num, hownY', hBY⟩
      case measure => simp [intOf]; omega
    · have hkJ' : k = J.length := by omega
      have hfin : LabelsAt wr.heap.size wr u3 (J.map cutLab) := by
        refine labels_of_own wr wr.heap.size w.heap.size _ k _ (by rw [show (J.map cutLab) = (J.map cutLab).take k by rw [List.take_of_length_le]; simp; omega]; exact hown) (by simp; omega) (Nat.le_refl _) ?_ (by simp; have := HN.out; omega)
        intro x hx
        obtain ⟨y, -, rfl⟩ := List.mem_map.1 hx
        have := cutLab_size y
        omega
      by_cases hkl : (k : Int) < len
      · have hk10 : ¬ (k : Int) < 10 := by have := HN.out; omega
        go_wp2
        go_ret
        exact ⟨hB, _, rfl, hfin⟩
      · go_wp2
        go_ret
        exact ⟨hB, _, rfl, hfin⟩
end Go.Proofs.YtjhdgpboofcelaaDoor
