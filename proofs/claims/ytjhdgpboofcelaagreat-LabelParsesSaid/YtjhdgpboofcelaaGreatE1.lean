/- Package label: Parse. -/
import Derived.Test.YtjhdgpboofcelaaGreatD9
import Derived.Deep.AppendLies
namespace Go.Proofs.YtjhdgpboofcelaaGreat
open Go.RowKit
open Go.Lib (decodeL validD)

theorem rdFold_le : ∀ (cs : List (List UInt8)) (r : Rd) (n : Nat), RdLe r n → (∀ c ∈ cs, 1 ≤ c.length) → RdLe (rdFold r cs) (n + cs.flatten.length)
  | [], r, n, h, _ => h
  | c :: cs, r, n, h, hc => by
    have h1 := rdFold_le cs _ _ (h.step c (hc c (by simp))) (fun x hx => hc x (by simp [hx]))
    rw [List.flatten_cons, List.length_append, ← Nat.add_assoc]
    exact h1
theorem runes_pos : ∀ (n : Nat) (l : List UInt8), l.length ≤ n → ∀ c ∈ runes l, 1 ≤ c.length
  | 0, l, hl => by
    obtain rfl : l = [] := List.eq_nil_of_length_eq_zero (by omega)
    intro c hc
    cases hc
  | n + 1, l, hl => by
    by_cases hne : l = []
    · subst hne
      intro c hc
      cases hc
    · rw [runes_step l hne]
      have hw := Lib.decodeL_width l
      have hpos : 0 < l.length := List.length_pos_iff.2 hne
      intro c hc
      rcases List.mem_cons.1 hc with rfl | hc
      · rw [List.length_take]; omega
      · exact runes_pos n _ (by rw [List.length_drop]; omega) c hc
theorem readB_le (l : List UInt8) (L : List BLab) (h : readB l = some L) : (∀ x ∈ L, x.1.size ≤ l.length ∧ x.2.size ≤ l.length) ∧ 0 < L.length ∧ L.length ≤ l.length + 1 := by
  have hR : RdLe (rdFold rd0 (runes l)) l.length := by
    have := rdFold_le (runes l) rd0 0 ⟨Nat.le_refl _, Nat.le_refl _, Nat.le_refl _, fun _ h => (by cases h)⟩ (runes_pos _ l (Nat.le_refl _))
    rw [flat_runes, Nat.zero_add] at this
    exact this
  unfold readB at h
  split at h
  · simp only [] at h
    split at h
    · obtain ⟨h1, h2, h3, h4⟩ := hR
      simp only [Option.some.injEq] at h
      subst h
      refine ⟨fun x hx => ?_, by simp, by simp; omega⟩
      rcases List.mem_append.1 hx with hx | hx
      · exact h4 x hx
      · simp at hx; subst hx; exact ⟨h1, h2⟩
    · cases h
  · cases h

theorem rightA_short (L : List BLab) (h : rightA L = true) : L.length ≤ 6 := by
  unfold rightA headB at h
  simp at h
  omega
theorem rightA_long (L : List BLab) (h : 6 < L.length) : rightA L = false := by
  cases hr : rightA L
  · rfl
  · have := rightA_short L hr
    omega
/-- What Parse tells. -/
def ParseP (w' : World) (o : Option (List BLab)) (e : Ending) : Prop :=
  (o = none ∧ e = .returned (.tuple #[.slice none 0 0, .int .i64 40])) ∨ (∃ L v, o = some L ∧ e = .returned (.tuple #[v, .int .i64 0]) ∧ LabelsAt w'.heap.size w' v L)
theorem labels_own (w : World) (M g cap : Nat) (L : List BLab) (h : w.ownsRow M 41 2 (.slice (some ⟨g, 0, none⟩) L.length cap) L.length (labCells L)) : L.length ≤ cap := by
  obtain ⟨h1, ⟨h2, h3⟩ | ⟨g', cap', cur, h2, h3, h4, h5, h6⟩⟩ := h
  · cases h2
  · simp only [Value.slice.injEq, Option.some.injEq, Addr.mk.injEq, and_true, true_and] at h2
    obtain ⟨rfl, rfl⟩ := h2
    exact h5
theorem ParseP.none' {w' : World} {e : Ending} (h : e = .returned (.tuple #[.slice none 0 0, .int .i64 40])) : ParseP w' none e := .inl ⟨rfl, h⟩
set_option maxHeartbeats 1000000 in
set_option maxRecDepth 100000 in
theorem parse_none (s : ByteArray) (w : World) (hs : s.size ≤ 100000) (hN : readB s.data.toList = none) :
    Calls Tryz.prog 11 #[.string s] w fun e w' => Below w.heap.size w w' ∧ ParseP w' (parseA s.data.toList) e := by
  have hP : parseA s.data.toList = none := by unfold parseA; rw [hN]; rfl
  rw [hP]
  have hrd := fun b w h => read_any b s w h (by omega)
  rw [hN] at hrd
  clear hN hP
  go_enter Tryz.func11, Tryz.ntmps11
  go_wp2_with (first
    | (go_at_call 26; refine (hrd _ _ (RowAt.of_new _ _ _)).mono ?_; rintro e w2 ⟨hB, ⟨-, rfl⟩ | ⟨L, h1, -⟩⟩; rotate_left; exact absurd h1 (by simp))
    | (go_at_call 27; refine (told_wrong _).mono ?_; rintro e w3 ⟨rfl, hB3⟩))
  go_ret2
  exact ⟨(((Below.refl _ _).alloc (Nat.le_refl _) _).trans hB).trans (hB3.mono (by have := hB.size; simp at this; omega)), ParseP.none' rfl⟩
set_option maxHeartbeats 2000000 in
set_option maxRecDepth 100000 in
theorem parse_some (n : Nat) (hS : SortLaw n) (s : ByteArray) (w : World) (hs : s.size ≤ 100000) (L : List BLab) (hN : readB s.data.toList = some L) (hn : L.length < n) :
    Calls Tryz.prog 11 #[.string s] w fun e w' => Below w.heap.size w w' ∧ ParseP w' (parseA s.data.toList) e := by
  obtain ⟨l1, l2, l3⟩ := readB_le _ _ hN
  rw [data_length] at l3
  have l1' : ∀ x ∈ L, x.1.size ≤ 1000000 ∧ x.2.size ≤ 1000000 := fun x hx => by have := l1 x hx; rw [data_length] at this; omega
  have hP : parseA s.data.toList = if rightA (sortA L) then some (sortA L) else none := by unfold parseA; rw [hN]; rfl
  rw [hP]
  have hrd := fun b w h => read_any b s w h (by omega)
  rw [hN] at hrd
  have HL := Lib.hid l3
  clear hN hP l1 l3
  go_enter Tryz.func11, Tryz.ntmps11
  go_wp2_with fail
  refine (hrd _ _ (RowAt.of_new _ _ _)).mono ?_
  rintro e w2 ⟨hB, ⟨h1, -⟩ | ⟨L', h1, rfl, M, r, nv, hR, rfl⟩⟩
  · exact absurd h1 (by simp)
  obtain rfl := Option.some.inj h1
  obtain ⟨hbM, hM, v, hrow, hown⟩ := id hR
  obtain ⟨g, cap, rfl, hMg, hg⟩ := World.ownsRow.form hown l2
  have c2 := hrow.cell 2 (by simp [rdCells])
  simp only [rdCells, List.getElem_cons_zero, List.getElem_cons_succ] at c2
  have hcap := labels_own _ _ _ _ _ hown
  have hH2 := holds_of_own _ _ _ _ _ hown
  have hB1 : Below w.heap.size w w2 := ((Below.refl _ _).alloc (Nat.le_refl _) _).trans hB
  have hL6 : r.all.length ≤ 100001 := by have := HL.out; omega
  have hSo := hS g cap r.all.toArray w2 (by simpa using hn) hH2 hg (by simp; omega)
  rw [List.size_toArray] at hSo
  clear hrow hown hR hB hrd h1
  have HL6 := Lib.hid hL6
  have Hn := Lib.hid hn
  have Hcap := Lib.hid hcap
  clear hL6 hn hcap
  go_wp2_with fail
  refine hSo.mono ?_
  rintro e w3 ⟨rfl, dk, hgr, hH3, hdk, hmem, h20⟩
  have hst : Stay w.heap.size M g w2 w3 := stay_of_grown hgr (by omega) hMg (by omega)
  have c3 : w3.cell? ⟨w.heap.size, 2, none⟩ = some (.slice (some ⟨g, 0, none⟩) r.all.length cap) := by rw [← c2]; exact World.cell?_of_block (hst.2 w.heap.size (by omega) (by omega) (by omega))
  have hst3 := hst.1
  have hsz3 : dk.size = r.all.length := by simpa using hdk
  have hg3 : g < w3.heap.size := Nat.lt_of_lt_of_le hg hgr.size
  have hb3 : w.heap.size ≤ w3.heap.size := by omega
  have hL3 : LabelsAt w3.heap.size w3 (.slice (some ⟨g, 0, none⟩) r.all.length cap) dk.toList := by
    rw [← hsz3]
    exact labels_of_holds w3 g cap dk hH3 hg3 (by have := Hcap.out; omega) (fun x hx => l1' x (by simpa using hmem x hx)) (by have := HL6.out; omega)
  have hRi := right_any _ _ w3 hL3
  have hre : rightA dk.toList = rightA (sortA r.all) := by
    by_cases h : r.all.length < 20
    · rw [h20 (by simpa using h)]
      simp [sortA]
    · have e1 : rightA dk.toList = false := rightA_long _ (by simp; omega)
      have e2 : rightA (sortA r.all) = false := rightA_long _ (by rw [(sortA_perm r.all).length_eq]; omega)
      rw [e1, e2]
  have hkk : rightA (sortA r.all) = true → dk.toList = sortA r.all := by
    intro h
    have h6 := rightA_short _ h
    rw [(sortA_perm r.all).length_eq] at h6
    rw [h20 (by omega)]
    simp [sortA]
  rw [hre] at hRi
  have HS3 := Lib.hid hsz3
  have HBB := Lib.hid (hB1.trans hst3)
  clear hdk hmem h20 hsz3 hst hst3 hgr hH3 hB1
  cases hr : rightA (sortA r.all)
  · rw [hr] at hRi
    clear hkk
    go_wp2_with (first
      | (go_at_call 19; refine hRi.mono ?_; rintro e w4 ⟨rfl, hB4⟩)
      | (go_at_call 27; refine (told_wrong _).mono ?_; rintro e w5 ⟨rfl, hB5⟩))
    all_goals go_ret2
    all_goals exact ⟨(HBB.out.trans (hB4.mono hb3)).trans (hB5.mono (by have := hB4.size; omega)), ParseP.none' rfl⟩
  · rw [hr] at hRi
    have hkk' := hkk hr
    clear hkk
    go_wp2_with fail
    refine hRi.mono ?_
    rintro e w4 ⟨rfl, hB4⟩
    have c4 : w4.cell? ⟨w.heap.size, 2, none⟩ = some (.slice (some ⟨g, 0, none⟩) r.all.length cap) := by rw [← c3]; exact hB4.cell (by show w.heap.size < w3.heap.size; omega)
    go_wp2_with fail
    go_ret2
    refine ⟨HBB.out.trans (hB4.mono hb3), .inr ⟨_, _, rfl, rfl, ?_⟩⟩
    rw [← hkk']
    exact hL3.at_ hB4
theorem parse_any (n : Nat) (hS : SortLaw n) (s : ByteArray) (w : World) (hs : s.size ≤ 100000) (hn : ∀ L, readB s.data.toList = some L → L.length < n) :
    Calls Tryz.prog 11 #[.string s] w fun e w' => Below w.heap.size w w' ∧ ParseP w' (parseA s.data.toList) e := by
  cases h : readB s.data.toList with
  | none => exact parse_none s w hs h
  | some L => exact parse_some n hS s w hs L h (hn L h)
end Go.Proofs.YtjhdgpboofcelaaGreat
