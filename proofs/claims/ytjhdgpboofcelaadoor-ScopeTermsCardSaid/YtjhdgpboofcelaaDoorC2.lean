/- Package label: isName, isValue. -/
import Derived.Test.YtjhdgpboofcelaaDoorC1
namespace Go.Proofs.YtjhdgpboofcelaaDoor
open Go.RowKit
open Go.Lib (decodeL validD)

/-- Is a byte a small letter? -/
def isAz (b : UInt8) : Bool := decide (97 ≤ b.toNat) && decide (b.toNat ≤ 122)
/-- Is a text a name? -/
def nameB (s : List UInt8) : Bool := s.all isAz && decide (1 ≤ s.length) && decide (s.length ≤ 12)
/-- Is a byte one that no value has? -/
def isCtl (b : UInt8) : Bool := decide (b.toNat < 32) || decide (b.toNat = 127)
/-- Is a text a value? -/
def valueB (s : List UInt8) : Bool := validD s && decide ((runes s).length ≤ 24) && !s.any isCtl

theorem az_rune (l : List UInt8) (hne : l ≠ []) : (97 ≤ (decodeL l).1 → (decodeL l).1 ≤ 122 → l.all isAz = (l.drop (decodeL l).2).all isAz) ∧ (¬ (97 ≤ (decodeL l).1 ∧ (decodeL l).1 ≤ 122) → l.all isAz = false) := by
  obtain ⟨b, t, rfl⟩ := List.exists_cons_of_ne_nil hne
  by_cases hb : b.toNat < 128
  · rw [Lib.decodeL_ascii b t hb]
    simp only [List.drop_succ_cons, List.drop_zero, List.all_cons, isAz]
    refine ⟨fun h1 h2 => by simp [h1, h2], fun h => ?_⟩
    have : (decide (97 ≤ b.toNat) && decide (b.toNat ≤ 122)) = false := by simpa using h
    rw [this]; rfl
  · have h1 : 128 ≤ (decodeL (b :: t)).1 := by
      rw [Lib.decodeL_N]
      rcases Lib.decodeN_shape (b :: t).length ((b :: t).getD 0 0).toNat ((b :: t).getD 1 0).toNat ((b :: t).getD 2 0).toNat ((b :: t).getD 3 0).toNat with ⟨c, e⟩ | ⟨k1, k2, k3, cv, e⟩ | ⟨k1, k2, k3, k4, cv, cs, e⟩ | ⟨k1, k2, k3, k4, k5, cv, cw, e⟩ | e
      · exact absurd c hb
      all_goals (rw [e]; simp only; omega)
    refine ⟨fun _ h2 => by omega, fun _ => ?_⟩
    have : isAz b = false := by unfold isAz; simp; omega
    simp [this]
theorem drop_ne (s : ByteArray) (pos : Nat) (hp : pos < s.size) : s.data.toList.drop pos ≠ [] := by
  intro h0
  have := congrArg List.length h0
  rw [List.length_drop, data_length] at this
  simp at this
  omega
theorem az_at (s : ByteArray) (pos : Nat) (hp : pos < s.size) : ∃ r k : Nat, Utf8.decode s pos = (r, k) ∧ 1 ≤ k ∧ pos + k ≤ s.size ∧
    (97 ≤ r → r ≤ 122 → (s.data.toList.drop pos).all isAz = (s.data.toList.drop (pos + k)).all isAz) ∧ (¬ (97 ≤ r ∧ r ≤ 122) → (s.data.toList.drop pos).all isAz = false) := by
  obtain ⟨r, k, hd, hk1, hk2, -, -, -, -⟩ := rune_at s pos hp
  have h := az_rune _ (drop_ne s pos hp)
  rw [Lib.decodeL_drop, hd, List.drop_drop] at h
  exact ⟨r, k, hd, hk1, hk2, h.1, h.2⟩
theorem nil_text (s : ByteArray) : (s.toList = []) = (s.size = 0) := by
  rw [ByteArray.toList_eq]
  apply propext
  rw [← List.length_eq_zero_iff, data_length]

theorem isName_any (s : ByteArray) (w : World) (hs : s.size < 9223372036854775807) :
    Calls Tryd.prog 24 #[.string s] w fun e w' => e = .returned (.bool (nameB s.data.toList)) ∧ Below w.heap.size w w' := by
  have hV : (s.data.toList.drop 0).all isAz = s.data.toList.all isAz := by simp
  unfold nameB
  rw [data_length]
  generalize s.data.toList.all isAz = V at *
  have HV := Lib.hid hV
  clear hV
  go_enter Tryd.func24, Tryd.ntmps24
  go_wp2
  go_loopw [] (fun w' => ∃ (pos : Nat), w' = w.iter s pos ∧ (s.data.toList.drop pos).all isAz = V ∧ pos ≤ s.size) (fun w' => s.size - w'.iterPos w.heap.size)
  case atStart => exact ⟨0, rfl, HV.out, Nat.zero_le _⟩
  case round =>
    obtain ⟨pos, rfl, hv, hps⟩ := hrel
    by_cases hp : pos < s.size
    · obtain ⟨r, k, hd, hk1, hk2, h1, h2⟩ := az_at s pos hp
      have hnx : ∀ ty, (Instr.next (.pointer (some ⟨w.heap.size, 0, none⟩)) true ty).run Tryd.prog (w.iter s pos) = _ := fun ty => run_next_any w s pos ty hp
      rw [hd] at hnx
      simp only at hnx
      by_cases hr : 97 ≤ r ∧ r ≤ 122
      · rw [h1 hr.1 hr.2] at hv
        have HV2 := Lib.hid hv
        have hr1 : ¬ ((r : Int) < 97) := by omega
        have hr2 : ¬ ((122 : Int) < r) := by omega
        clear h1 h2 hd hv
        go_wp2
        go_roundw
        case rel => exact ⟨pos + k, rfl, HV2.out, by omega⟩
        case measure => simp; omega
      · rw [h2 hr] at hv
        subst hv
        clear h1 h2 hd
        by_cases hr1 : (r : Int) < 97
        · go_wp2
          go_ret
          exact ⟨by simp, (by repeat (first | exact Below.refl _ _ | assumption | (refine Below.setCell ?_ (by (first | omega | (simp; done) | (simp; omega) | (simp at *; omega))) _) | (refine Below.alloc ?_ (by (first | omega | (simp; done) | (simp; omega) | (simp at *; omega))) _) | (refine Below.drew ?_) | (refine Gr.into _ ?_ (by (first | omega | (simp; done) | (simp; omega) | (simp at *; omega))))))⟩
        · have hr2 : (122 : Int) < r := by omega
          go_wp2
          go_ret
          exact ⟨by simp, (by repeat (first | exact Below.refl _ _ | assumption | (refine Below.setCell ?_ (by (first | omega | (simp; done) | (simp; omega) | (simp at *; omega))) _) | (refine Below.alloc ?_ (by (first | omega | (simp; done) | (simp; omega) | (simp at *; omega))) _) | (refine Below.drew ?_) | (refine Gr.into _ ?_ (by (first | omega | (simp; done) | (simp; omega) | (simp at *; omega))))))⟩
    · have hnx : ∀ ty, (Instr.next (.pointer (some ⟨w.heap.size, 0, none⟩)) true ty).run Tryd.prog (w.iter s pos) = _ := fun ty => run_next_end w s pos ty hp
      have h0 : s.data.toList.drop pos = [] := List.drop_eq_nil_of_le (by rw [data_length]; omega)
      rw [h0] at hv
      have e2 : V = true := hv.symm
      subst e2
      clear hv
      by_cases h1 : s.size = 0
      · have hn : s.toList.isEmpty = true := by rw [List.isEmpty_iff, nil_text]; exact h1
        have H1 := Lib.hid h1
        clear h1
        go_wp2
        go_ret
        refine ⟨?_, (by repeat (first | exact Below.refl _ _ | assumption | (refine Below.setCell ?_ (by (first | omega | (simp; done) | (simp; omega) | (simp at *; omega))) _) | (refine Below.alloc ?_ (by (first | omega | (simp; done) | (simp; omega) | (simp at *; omega))) _) | (refine Below.drew ?_) | (refine Gr.into _ ?_ (by (first | omega | (simp; done) | (simp; omega) | (simp at *; omega))))))⟩
        have h1 := H1.out
        simp [h1]
      · have hn : s.toList.isEmpty = false := by rw [← Bool.not_eq_true, List.isEmpty_iff, nil_text]; exact h1
        have H1 := Lib.hid h1
        clear h1
        go_wp2
        go_ret
        refine ⟨?_, (by repeat (first | exact Below.refl _ _ | assumption | (refine Below.setCell ?_ (by (first | omega | (simp; done) | (simp; omega) | (simp at *; omega))) _) | (refine Below.alloc ?_ (by (first | omega | (simp; done) | (simp; omega) | (simp at *; omega))) _) | (refine Below.drew ?_) | (refine Gr.into _ ?_ (by (first | omega | (simp; done) | (simp; omega) | (simp at *; omega))))))⟩
        have h1 : 0 < s.size := by have := H1.out; omega
        simp [h1]
        rw [Bool.eq_iff_iff]
        simp
        omega

theorem other_any (r : Nat) (W : World) : FnGives Tryd.prog 38 #[] #[encR r] (.bool (decide (r < 32) || decide (r = 127))) W := by
  unfold FnGives
  by_cases h1 : (r : Int) < 32
  · go_enter Tryd.func38, Tryd.ntmps38
    go_wp2
    go_ret
    exact ⟨by simp; omega, 0, rfl⟩
  · go_enter Tryd.func38, Tryd.ntmps38
    go_wp2
    go_ret
    refine ⟨?_, 0, rfl⟩
    simp
    rw [Bool.eq_iff_iff]
    simp
    omega

theorem ctl_rune (l : List UInt8) (hne : l ≠ []) (hv : ¬ ((decodeL l).1 = 65533 ∧ (decodeL l).2 = 1)) :
    l.any isCtl = (decide ((decodeL l).1 < 32) || decide ((decodeL l).1 = 127) || (l.drop (decodeL l).2).any isCtl) := by
  have e : l.any isCtl = ((l.take (decodeL l).2).any isCtl || (l.drop (decodeL l).2).any isCtl) := by
    rw [← List.any_append, List.take_append_drop]
  rw [e]
  congr 1
  rcases rune_bytes l hne hv with ⟨h1, h2, h3⟩ | ⟨h1, h2, h3⟩
  · rw [h2, h3]
    simp [isCtl]
  · have h4 : (l.take (decodeL l).2).any isCtl = false := by
      rw [List.any_eq_false]
      intro b hb
      have := h3 b hb
      simp [isCtl]
      omega
    rw [h4]
    simp
    omega
/-- In a right text: no rune is a control just if no byte is. -/
theorem idx_ctl (s : ByteArray) : ∀ (f pos : Nat), s.size ≤ pos + f → validD (s.data.toList.drop pos) = true →
    decide (0 ≤ Lib.idxFuncFrom (fun r => decide (r < 32) || decide (r = 127)) true s f pos) = (s.data.toList.drop pos).any isCtl
  | 0, pos, h, _ => by
    rw [List.drop_eq_nil_of_le (by rw [data_length]; omega)]
    simp [Lib.idxFuncFrom]
  | f + 1, pos, h, hv => by
    by_cases hp : pos < s.size
    · obtain ⟨r, k, hd, hk1, hk2, -, -, h2, -⟩ := rune_at s pos hp
      have h3 := ctl_rune _ (drop_ne s pos hp)
      rw [Lib.decodeL_drop, hd, List.drop_drop] at h3
      rw [h2] at hv
      by_cases hb : r = 65533 ∧ k = 1
      · rw [if_pos hb] at hv; cases hv
      · rw [if_neg hb] at hv
        rw [h3 hb]
        have ih := idx_ctl s f (pos + k) (by omega) hv
        unfold Lib.idxFuncFrom
        rw [if_pos hp, hd]
        simp only
        cases hc : (decide (r < 32) || decide (r = 127))
        · simp only [Bool.false_or]
          simpa using ih
        · simp
    · rw [List.drop_eq_nil_of_le (by rw [data_length]; omega), Lib.idxFuncFrom_end _ _ _ _ _ hp]
      simp

theorem isValue_any (s : ByteArray) (w : World) (hs : s.size < 9223372036854775807) :
    Calls Tryd.prog 25 #[.string s] w fun e w' => e = .returned (.bool (valueB s.data.toList)) ∧ Below w.heap.size w w' := by
  have eg : ∀ args w, (callFunc 38 args).run Tryd.prog w = .ok (.enter 38 args) w := enters_of Tryd.func38 (by kernel_rfl) rfl
  have hC := fun W => Tryd.strings_ContainsFunc 38 #[] eg (fun r => decide (r < 32) || decide (r = 127)) s W (fun W' r _ => other_any r W')
  have hI := idx_ctl s s.size 0 (by omega)
  rw [List.drop_zero] at hI
  unfold valueB
  have hR := runes_any s w hs
  unfold Lib.idxFunc at hC
  cases hV : validD s.data.toList
  · rw [hV] at hR
    go_enter Tryd.func25, Tryd.ntmps25
    go_wp2_with fail
    with_reducible refine Calls.mono (Calls.gr0 (hR)) ?_
    rintro e w' ⟨rfl, g, rfl⟩
    have hgl := g.le
    try simp only [World.size_alloc] at hgl
    try simp only [World.size_setCell] at hgl
    go_wp2_with fail
    go_ret
    exact ⟨by simp, (by repeat (first | exact Below.refl _ _ | assumption | (refine Below.setCell ?_ (by (first | omega | (simp; done) | (simp; omega) | (simp at *; omega))) _) | (refine Below.alloc ?_ (by (first | omega | (simp; done) | (simp; omega) | (simp at *; omega))) _) | (refine Below.drew ?_) | (refine Gr.into _ ?_ (by (first | omega | (simp; done) | (simp; omega) | (simp at *; omega))))))⟩
  · rw [hV] at hR
    have hI := hI hV
    rw [hI] at hC
    have hn : ((if true = true then (runes s.data.toList).length else 0 : Nat)) = (runes s.data.toList).length := rfl
    rw [hn] at hR
    have hlen : (runes s.data.toList).length < 9223372036854775807 := by
      have := runes_le s.data.toList
      rw [data_length] at this
      omega
    generalize (runes s.data.toList).length = n at *
    generalize s.data.toList.any isCtl = c at *
    clear hI hn hV
    by_cases h24 : n ≤ 24
    · have h1 : (n : Int) ≤ 24 := by omega
      have H2 := Lib.hid h24
      clear h24
      go_enter Tryd.func25, Tryd.ntmps25
      go_wp2_with fail
      with_reducible refine Calls.mono (Calls.gr0 (hR)) ?_
      rintro e w' ⟨rfl, g, rfl⟩
      have hgl := g.le
      try simp only [World.size_alloc] at hgl
      try simp only [World.size_setCell] at hgl
      go_wp2_with fail
      with_reducible refine Calls.mono (Calls.gr (hC _)) ?_
      rintro e w' ⟨rfl, g, rfl⟩
      have hgl := g.le
      try simp only [World.size_alloc] at hgl
      try simp only [World.size_setCell] at hgl
      go_wp2_with fail
      go_ret
      exact ⟨by simp [H2.out], (by repeat (first | exact Below.refl _ _ | assumption | (refine Below.setCell ?_ (by (first | omega | (simp; done) | (simp; omega) | (simp at *; omega))) _) | (refine Below.alloc ?_ (by (first | omega | (simp; done) | (simp; omega) | (simp at *; omega))) _) | (refine Below.drew ?_) | (refine Gr.into _ ?_ (by (first | omega | (simp; done) | (simp; omega) | (simp at *; omega))))))⟩
    · have h1 : ¬ (n : Int) ≤ 24 := by omega
      have H2 := Lib.hid h24
      clear h24
      go_enter Tryd.func25, Tryd.ntmps25
      go_wp2_with fail
      with_reducible refine Calls.mono (Calls.gr0 (hR)) ?_
      rintro e w' ⟨rfl, g, rfl⟩
      have hgl := g.le
      try simp only [World.size_alloc] at hgl
      try simp only [World.size_setCell] at hgl
      go_wp2_with fail
      go_ret
      exact ⟨by simp [H2.out], (by repeat (first | exact Below.refl _ _ | assumption | (refine Below.setCell ?_ (by (first | omega | (simp; done) | (simp; omega) | (simp at *; omega))) _) | (refine Below.alloc ?_ (by (first | omega | (simp; done) | (simp; omega) | (simp at *; omega))) _) | (refine Below.drew ?_) | (refine Gr.into _ ?_ (by (first | omega | (simp; done) | (simp; omega) | (simp at *; omega))))))⟩
end Go.Proofs.YtjhdgpboofcelaaDoor
