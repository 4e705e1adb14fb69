/- LabelBack: the walk. -/
import Derived.Test.YtjhdgpboofcelaaGreatEJ
import Derived.Test.YtjhdgpboofcelaaGreatEO
namespace Go.Proofs.YtjhdgpboofcelaaGreat
open Go.RowKit

theorem parse_str (s : ByteArray) (w : World) (hs : s.size ≤ 100000) :
    Calls Tryz.prog 11 #[.string s] w fun e w' => Below w.heap.size w w' ∧ ParseP w' (parseA s.data.toList) e :=
  parse_any (s.size + 3) (sortLaw_all _) s w hs fun L h => by
    have := (readB_le _ _ h).2.2
    rw [data_length] at this
    omega
theorem parse_empty (w : World) : Calls Tryz.prog 11 #[.string ⟨#[]⟩] w fun e w' => e = .returned (.tuple #[.slice none 0 0, .int .i64 40]) ∧ Below w.heap.size w w' := by
  refine (parse_str ⟨#[]⟩ w (by decide)).mono ?_
  rintro e w' ⟨hB, ⟨-, h2⟩ | ⟨L, v, h1, -⟩⟩
  · exact ⟨h2, hB⟩
  · have h : parseA [] = none := by kernel_rfl
    have h1' : parseA [] = some L := h1
    rw [h] at h1'
    cases h1'
theorem parse_no (s : ByteArray) (w : World) (hs : s.size ≤ 100000) (h : parseA s.data.toList = none) :
    Calls Tryz.prog 11 #[.string s] w fun e w' => e = .returned (.tuple #[.slice none 0 0, .int .i64 40]) ∧ Below w.heap.size w w' := by
  refine (parse_str s w hs).mono ?_
  rintro e w' ⟨hB, ⟨-, h2⟩ | ⟨L, v, h1, -⟩⟩
  · exact ⟨h2, hB⟩
  · rw [h] at h1
    cases h1
theorem parse_yes (s : ByteArray) (w : World) (hs : s.size ≤ 100000) (C : List BLab) (h : parseA s.data.toList = some C) :
    Calls Tryz.prog 11 #[.string s] w fun e w' => Below w.heap.size w w' ∧ ∃ v, e = .returned (.tuple #[v, .int .i64 0]) ∧ LabelsAt w'.heap.size w' v C := by
  refine (parse_str s w hs).mono ?_
  rintro e w' ⟨hB, ⟨h1, -⟩ | ⟨L, v, h1, h2, h3⟩⟩
  · rw [h] at h1
    cases h1
  · rw [h] at h1
    obtain rfl := Option.some.inj h1
    exact ⟨hB, v, h2, h3⟩
theorem parseA_right (l : List UInt8) (C : List BLab) (h : parseA l = some C) : rightA C = true := by
  unfold parseA at h
  cases hr : readB l with
  | none => rw [hr] at h; cases h
  | some K =>
    rw [hr] at h
    have h' : (if rightA (sortA K) then some (sortA K) else none) = some C := h
    by_cases hR : rightA (sortA K) = true
    · rw [if_pos hR] at h'
      obtain rfl := Option.some.inj h'
      exact hR
    · rw [if_neg hR] at h'
      cases h'
theorem parseA_size (l : List UInt8) (C : List BLab) (h : parseA l = some C) : ∀ x ∈ C, x.1.size ≤ l.length ∧ x.2.size ≤ l.length := by
  unfold parseA at h
  cases hr : readB l with
  | none => rw [hr] at h; cases h
  | some K =>
    have hs := (readB_le _ _ hr).1
    rw [hr] at h
    have h' : (if rightA (sortA K) then some (sortA K) else none) = some C := h
    by_cases hR : rightA (sortA K) = true
    · rw [if_pos hR] at h'
      obtain rfl := Option.some.inj h'
      exact fun x hx => hs x ((sortA_perm K).mem_iff.1 hx)
    · rw [if_neg hR] at h'
      cases h'
theorem text_yes (v : Value) (L : List BLab) (w : World) (hr : rightA L = true) (hL : LabelsAt w.heap.size w v L) :
    Calls Tryz.prog 18 #[v] w fun e w' => e = .returned (.tuple #[.string ⟨(textA L).toArray⟩, .int .i64 0]) ∧ Below w.heap.size w w' := by
  have h := text_any v L w hL
  rw [hr] at h
  exact h
theorem text_no (v : Value) (L : List BLab) (w : World) (hr : rightA L = false) (hL : LabelsAt w.heap.size w v L) :
    Calls Tryz.prog 18 #[v] w fun e w' => e = .returned (.tuple #[.string ⟨#[]⟩, .int .i64 40]) ∧ Below w.heap.size w w' := by
  have h := text_any v L w hL
  rw [hr] at h
  exact h
theorem same_yes (v u : Value) (L : List BLab) (w : World) (hL : LabelsAt w.heap.size w v L) (hK : LabelsAt w.heap.size w u L) :
    Calls Tryz.prog 16 #[v, u] w fun e w' => e = .returned (.bool true) ∧ Below w.heap.size w w' := by
  have h := rsame_any v u L L w hL hK
  rw [decide_eq_true rfl] at h
  exact h
set_option maxRecDepth 100000 in
set_option maxHeartbeats 2000000 in
theorem labelBack_yes_yes (p : Value) (L : List BLab) (c s : ByteArray) (w : World) (hF : ∀ W, Below w.heap.size w W → Calls Tryz.prog 17 #[p] W fun e w' => Below W.heap.size W w' ∧ ∃ v, e = .returned v ∧ LabelsAt w'.heap.size w' v L) (hti : Tiny L) (hr : rightA L = true)
    (hcut : ∀ W, Calls Tryz.prog 12 #[.string s] W fun e w' => e = .returned (.string c) ∧ Below W.heap.size W w') (hc : c.size ≤ 600) (C : List BLab) (hq : parseA c.data.toList = some C) :
    Calls Tryz.prog 4 #[p, .string s] w fun e w' => e = .returned (.bool true) ∧ Below w.heap.size w w' := by
  have hT := fun v W h => text_yes v L W hr h
  have hP := fun W => parse_of L L ⟨(textA L).toArray⟩ W hr (List.Perm.refl _) hti rfl
  have hS := fun u v W h1 h2 => same_yes u v L W h1 h2
  generalize (⟨(textA L).toArray⟩ : ByteArray) = T at *
  have hr2 := parseA_right _ _ hq
  have hz := parseA_size _ _ hq
  rw [data_length] at hz
  have hti2 : Tiny C := fun x hx => by have := hz x hx; omega
  have hP2 := fun W => parse_yes c W (by omega) C hq
  have hT2 := fun v W h => text_yes v C W hr2 h
  have hP3 := fun W => parse_of C C ⟨(textA C).toArray⟩ W hr2 (List.Perm.refl _) hti2 rfl
  have hR2 := fun v W h => right_any v C W h
  rw [hr2] at hR2
  have hS2 := fun u v W h1 h2 => same_yes u v C W h1 h2
  generalize (⟨(textA C).toArray⟩ : ByteArray) = U at *
  clear hz hti2 hr2
  clear hq hr hti hc
  go_enter Tryz.func4, Tryz.ntmps4
  go_wp2_with fail
  refine (shown_any _).mono ?_
  rintro e w1 ⟨rfl, B1⟩
  have C1 := B1
  have s1 := C1.size
  go_wp2_with fail
  refine (hF _ C1).mono ?_
  rintro e w2 ⟨B2, v, rfl, hL⟩
  have C2 := C1.trans (B2.mono s1)
  have s2 := C2.size
  clear B2 C1
  go_wp2_with fail
  refine (hT _ _ hL).mono ?_
  rintro e w3 ⟨rfl, B3⟩
  have C3 := C2.trans (B3.mono s2)
  have s3 := C3.size
  have hL := hL.at_ B3
  clear B3 C2
  go_wp2_with fail
  refine (hP _).mono ?_
  rintro e w4 ⟨B4, u, rfl, hK⟩
  have C4 := C3.trans (B4.mono s3)
  have s4 := C4.size
  have hL := hL.at_ B4
  clear B4 C3
  go_wp2_with fail
  refine (hS _ _ _ hK hL).mono ?_
  rintro e w5 ⟨rfl, B5⟩
  have C5 := C4.trans (B5.mono s4)
  have s5 := C5.size
  have hL := hL.at_ B5
  have hK := hK.at_ B5
  clear B5 C4
  clear hT hP hS hF hL hK
  go_wp2_with fail
  refine (hcut _).mono ?_
  rintro e w6 ⟨rfl, B6⟩
  have C6 := C5.trans (B6.mono s5)
  have s6 := C6.size
  clear B6 C5
  go_wp2_with fail
  refine (hP2 _).mono ?_
  rintro e w7 ⟨B7, y, rfl, hY⟩
  have C7 := C6.trans (B7.mono s6)
  have s7 := C7.size
  clear B7 C6
  go_wp2_with fail
  refine (hT2 _ _ hY).mono ?_
  rintro e w8 ⟨rfl, B8⟩
  have C8 := C7.trans (B8.mono s7)
  have s8 := C8.size
  have hY := hY.at_ B8
  clear B8 C7
  go_wp2_with fail
  refine (hP3 _).mono ?_
  rintro e w9 ⟨B9, z, rfl, hZ⟩
  have C9 := C8.trans (B9.mono s8)
  have s9 := C9.size
  have hY := hY.at_ B9
  clear B9 C8
  go_wp2_with fail
  refine (hR2 _ _ hY).mono ?_
  rintro e w10 ⟨rfl, B10⟩
  have C10 := C9.trans (B10.mono s9)
  have s10 := C10.size
  have hY := hY.at_ B10
  have hZ := hZ.at_ B10
  clear B10 C9
  go_wp2_with fail
  refine (hS2 _ _ _ hZ hY).mono ?_
  rintro e w11 ⟨rfl, B11⟩
  have C11 := C10.trans (B11.mono s10)
  have s11 := C11.size
  have hY := hY.at_ B11
  have hZ := hZ.at_ B11
  clear B11 C10
  go_wp2_with fail
  go_ret
  exact ⟨rfl, C11⟩
set_option maxRecDepth 100000 in
set_option maxHeartbeats 2000000 in
theorem labelBack_yes_no (p : Value) (L : List BLab) (c s : ByteArray) (w : World) (hF : ∀ W, Below w.heap.size w W → Calls Tryz.prog 17 #[p] W fun e w' => Below W.heap.size W w' ∧ ∃ v, e = .returned v ∧ LabelsAt w'.heap.size w' v L) (hti : Tiny L) (hr : rightA L = true)
    (hcut : ∀ W, Calls Tryz.prog 12 #[.string s] W fun e w' => e = .returned (.string c) ∧ Below W.heap.size W w') (hc : c.size ≤ 600) (hq : parseA c.data.toList = none) :
    Calls Tryz.prog 4 #[p, .string s] w fun e w' => e = .returned (.bool true) ∧ Below w.heap.size w w' := by
  have hT := fun v W h => text_yes v L W hr h
  have hP := fun W => parse_of L L ⟨(textA L).toArray⟩ W hr (List.Perm.refl _) hti rfl
  have hS := fun u v W h1 h2 => same_yes u v L W h1 h2
  generalize (⟨(textA L).toArray⟩ : ByteArray) = T at *
  have hP2 := fun W => parse_no c W (by omega) hq
  clear hq hr hti hc
  go_enter Tryz.func4, Tryz.ntmps4
  go_wp2_with fail
  refine (shown_any _).mono ?_
  rintro e w1 ⟨rfl, B1⟩
  have C1 := B1
  have s1 := C1.size
  go_wp2_with fail
  refine (hF _ C1).mono ?_
  rintro e w2 ⟨B2, v, rfl, hL⟩
  have C2 := C1.trans (B2.mono s1)
  have s2 := C2.size
  clear B2 C1
  go_wp2_with fail
  refine (hT _ _ hL).mono ?_
  rintro e w3 ⟨rfl, B3⟩
  have C3 := C2.trans (B3.mono s2)
  have s3 := C3.size
  have hL := hL.at_ B3
  clear B3 C2
  go_wp2_with fail
  refine (hP _).mono ?_
  rintro e w4 ⟨B4, u, rfl, hK⟩
  have C4 := C3.trans (B4.mono s3)
  have s4 := C4.size
  have hL := hL.at_ B4
  clear B4 C3
  go_wp2_with fail
  refine (hS _ _ _ hK hL).mono ?_
  rintro e w5 ⟨rfl, B5⟩
  have C5 := C4.trans (B5.mono s4)
  have s5 := C5.size
  have hL := hL.at_ B5
  have hK := hK.at_ B5
  clear B5 C4
  clear hT hP hS hF hL hK
  go_wp2_with fail
  refine (hcut _).mono ?_
  rintro e w6 ⟨rfl, B6⟩
  have C6 := C5.trans (B6.mono s5)
  have s6 := C6.size
  clear B6 C5
  go_wp2_with fail
  refine (hP2 _).mono ?_
  rintro e w7 ⟨rfl, B7⟩
  have C7 := C6.trans (B7.mono s6)
  have s7 := C7.size
  clear B7 C6
  go_wp2_with fail
  refine (text_no _ [] _ (by kernel_rfl) (LabelsAt.nil _ _)).mono ?_
  rintro e w8 ⟨rfl, B8⟩
  have C8 := C7.trans (B8.mono s7)
  have s8 := C8.size
  clear B8 C7
  go_wp2_with fail
  refine (parse_empty _).mono ?_
  rintro e w9 ⟨rfl, B9⟩
  have C9 := C8.trans (B9.mono s8)
  have s9 := C9.size
  clear B9 C8
  go_wp2_with fail
  go_ret
  exact ⟨rfl, C9⟩
set_option maxRecDepth 100000 in
set_option maxHeartbeats 2000000 in
theorem labelBack_no_yes (p : Value) (L : List BLab) (c s : ByteArray) (w : World) (hF : ∀ W, Below w.heap.size w W → Calls Tryz.prog 17 #[p] W fun e w' => Below W.heap.size W w' ∧ ∃ v, e = .returned v ∧ LabelsAt w'.heap.size w' v L) (hti : Tiny L) (hr : rightA L = false)
    (hcut : ∀ W, Calls Tryz.prog 12 #[.string s] W fun e w' => e = .returned (.string c) ∧ Below W.heap.size W w') (hc : c.size ≤ 600) (C : List BLab) (hq : parseA c.data.toList = some C) :
    Calls Tryz.prog 4 #[p, .string s] w fun e w' => e = .returned (.bool true) ∧ Below w.heap.size w w' := by
  have hT := fun v W h => text_no v L W hr h
  have hr2 := parseA_right _ _ hq
  have hz := parseA_size _ _ hq
  rw [data_length] at hz
  have hti2 : Tiny C := fun x hx => by have := hz x hx; omega
  have hP2 := fun W => parse_yes c W (by omega) C hq
  have hT2 := fun v W h => text_yes v C W hr2 h
  have hP3 := fun W => parse_of C C ⟨(textA C).toArray⟩ W hr2 (List.Perm.refl _) hti2 rfl
  have hR2 := fun v W h => right_any v C W h
  rw [hr2] at hR2
  have hS2 := fun u v W h1 h2 => same_yes u v C W h1 h2
  generalize (⟨(textA C).toArray⟩ : ByteArray) = U at *
  clear hz hti2 hr2
  clear hq hr hti hc
  go_enter Tryz.func4, Tryz.ntmps4
  go_wp2_with fail
  refine (shown_any _).mono ?_
  rintro e w1 ⟨rfl, B1⟩
  have C1 := B1
  have s1 := C1.size
  go_wp2_with fail
  refine (hF _ C1).mono ?_
  rintro e w2 ⟨B2, v, rfl, hL⟩
  have C2 := C1.trans (B2.mono s1)
  have s2 := C2.size
  clear B2 C1
  go_wp2_with fail
  refine (hT _ _ hL).mono ?_
  rintro e w3 ⟨rfl, B3⟩
  have C3 := C2.trans (B3.mono s2)
  have s3 := C3.size
  have hL := hL.at_ B3
  clear B3 C2
  go_wp2_with fail
  refine (parse_empty _).mono ?_
  rintro e w4 ⟨rfl, B4⟩
  have C4 := C3.trans (B4.mono s3)
  have s4 := C4.size
  have hL := hL.at_ B4
  clear B4 C3
  clear hT hF hL
  go_wp2_with fail
  refine (hcut _).mono ?_
  rintro e w5 ⟨rfl, B5⟩
  have C5 := C4.trans (B5.mono s4)
  have s5 := C5.size
  clear B5 C4
  go_wp2_with fail
  refine (hP2 _).mono ?_
  rintro e w6 ⟨B6, y, rfl, hY⟩
  have C6 := C5.trans (B6.mono s5)
  have s6 := C6.size
  clear B6 C5
  go_wp2_with fail
  refine (hT2 _ _ hY).mono ?_
  rintro e w7 ⟨rfl, B7⟩
  have C7 := C6.trans (B7.mono s6)
  have s7 := C7.size
  have hY := hY.at_ B7
  clear B7 C6
  go_wp2_with fail
  refine (hP3 _).mono ?_
  rintro e w8 ⟨B8, z, rfl, hZ⟩
  have C8 := C7.trans (B8.mono s7)
  have s8 := C8.size
  have hY := hY.at_ B8
  clear B8 C7
  go_wp2_with fail
  refine (hR2 _ _ hY).mono ?_
  rintro e w9 ⟨rfl, B9⟩
  have C9 := C8.trans (B9.mono s8)
  have s9 := C9.size
  have hY := hY.at_ B9
  have hZ := hZ.at_ B9
  clear B9 C8
  go_wp2_with fail
  refine (hS2 _ _ _ hZ hY).mono ?_
  rintro e w10 ⟨rfl, B10⟩
  have C10 := C9.trans (B10.mono s9)
  have s10 := C10.size
  have hY := hY.at_ B10
  have hZ := hZ.at_ B10
  clear B10 C9
  go_wp2_with fail
  go_ret
  exact ⟨rfl, C10⟩
set_option maxRecDepth 100000 in
set_option maxHeartbeats 2000000 in
theorem labelBack_no_no (p : Value) (L : List BLab) (c s : ByteArray) (w : World) (hF : ∀ W, Below w.heap.size w W → Calls Tryz.prog 17 #[p] W fun e w' => Below W.heap.size W w' ∧ ∃ v, e = .returned v ∧ LabelsAt w'.heap.size w' v L) (hti : Tiny L) (hr : rightA L = false)
    (hcut : ∀ W, Calls Tryz.prog 12 #[.string s] W fun e w' => e = .returned (.string c) ∧ Below W.heap.size W w') (hc : c.size ≤ 600) (hq : parseA c.data.toList = none) :
    Calls Tryz.prog 4 #[p, .string s] w fun e w' => e = .returned (.bool true) ∧ Below w.heap.size w w' := by
  have hT := fun v W h => text_no v L W hr h
  have hP2 := fun W => parse_no c W (by omega) hq
  clear hq hr hti hc
  go_enter Tryz.func4, Tryz.ntmps4
  go_wp2_with fail
  refine (shown_any _).mono ?_
  rintro e w1 ⟨rfl, B1⟩
  have C1 := B1
  have s1 := C1.size
  go_wp2_with fail
  refine (hF _ C1).mono ?_
  rintro e w2 ⟨B2, v, rfl, hL⟩
  have C2 := C1.trans (B2.mono s1)
  have s2 := C2.size
  clear B2 C1
  go_wp2_with fail
  refine (hT _ _ hL).mono ?_
  rintro e w3 ⟨rfl, B3⟩
  have C3 := C2.trans (B3.mono s2)
  have s3 := C3.size
  have hL := hL.at_ B3
  clear B3 C2
  go_wp2_with fail
  refine (parse_empty _).mono ?_
  rintro e w4 ⟨rfl, B4⟩
  have C4 := C3.trans (B4.mono s3)
  have s4 := C4.size
  have hL := hL.at_ B4
  clear B4 C3
  clear hT hF hL
  go_wp2_with fail
  refine (hcut _).mono ?_
  rintro e w5 ⟨rfl, B5⟩
  have C5 := C4.trans (B5.mono s4)
  have s5 := C5.size
  clear B5 C4
  go_wp2_with fail
  refine (hP2 _).mono ?_
  rintro e w6 ⟨rfl, B6⟩
  have C6 := C5.trans (B6.mono s5)
  have s6 := C6.size
  clear B6 C5
  go_wp2_with fail
  refine (text_no _ [] _ (by kernel_rfl) (LabelsAt.nil _ _)).mono ?_
  rintro e w7 ⟨rfl, B7⟩
  have C7 := C6.trans (B7.mono s6)
  have s7 := C7.size
  clear B7 C6
  go_wp2_with fail
  refine (parse_empty _).mono ?_
  rintro e w8 ⟨rfl, B8⟩
  have C8 := C7.trans (B8.mono s7)
  have s8 := C8.size
  clear B8 C7
  go_wp2_with fail
  go_ret
  exact ⟨rfl, C8⟩
theorem labelBack_law (p : Option Addr) (len cap : Nat) (J : List BLab) (hn : J.length = min len 10) (w : World) (hc : CameAt w p J) (s : ByteArray) (hs : s.size ≤ maxLen) :
    Calls Tryz.prog 4 #[.slice p len cap, .string s] w fun e w' => e = .returned (.bool true) ∧ Below w.heap.size w w' := by
  have hmx : maxLen = 9223372036854775807 := by decide +kernel
  have hF : ∀ W, Below w.heap.size w W → Calls Tryz.prog 17 #[.slice p len cap] W fun e w' => Below W.heap.size W w' ∧ ∃ v, e = .returned v ∧ LabelsAt w'.heap.size w' v (J.map cutLab) := fun W hb => few_any p len cap J W hn (came_below hc hb)
  have hti := cut_tiny J
  have hcut := fun W => cut_any s W (by omega)
  have hz := cutB_size s
  cases hr : rightA (J.map cutLab) <;> cases hq : parseA (cutB s).data.toList with
  | none => first | exact labelBack_no_no _ _ _ s w hF hti hr hcut hz hq | exact labelBack_yes_no _ _ _ s w hF hti hr hcut hz hq
  | some C => first | exact labelBack_no_yes _ _ _ s w hF hti hr hcut hz C hq | exact labelBack_yes_yes _ _ _ s w hF hti hr hcut hz C hq
end Go.Proofs.YtjhdgpboofcelaaGreat
