/- How labels are sorted, however many: it ends, and the row holds labels of the row. -/
import Derived.Test.YtjhdgpboofcelaaGreatEN
namespace Go.Proofs.YtjhdgpboofcelaaGreat
open Go.RowKit

theorem MergeLaw.mono {g n cap : Nat} {M : List BLab} {k j : Nat} (h : MergeLaw g n cap M k) (hj : j ≤ k) : MergeLaw g n cap M j := fun a m b w h1 => h a m b w (by omega)
theorem symMerge_any (g n cap : Nat) (M : List BLab) (hn : n ≤ 1000000) : ∀ k, MergeLaw g n cap M k
  | 0 => fun a m b w h1 h2 h3 => absurd h1 (by omega)
  | k + 1 => fun a m b w h1 h2 h3 h4 h5 h6 => by
    by_cases c1 : m = a + 1
    · subst c1
      exact symMerge_left g n cap a b M w h5 h6 h3 h4 hn
    by_cases c2 : b = m + 1
    · subst c2
      exact symMerge_right g n cap a m M w h5 h6 (by omega) h4 hn
    have IH : MergeLaw g n cap M (b - a - 1) := (symMerge_any g n cap M hn k).mono (by omega)
    by_cases c3 : (a + b) / 2 < m
    · exact symMerge_far g n cap a m b M w h5 h6 (by omega) (by omega) h4 hn c3 IH
    · exact symMerge_near g n cap a m b M w h5 h6 (by omega) (by omega) h4 hn (by omega) IH
theorem merge_any (g n cap : Nat) (M : List BLab) (hn : n ≤ 1000000) (a m b : Nat) (w : World) (h2 : a < m) (h3 : m < b) (h4 : b ≤ n) (h5 : g < w.heap.size) (h6 : RowOf g n M w) :
    Calls Tryz.prog 63 #[LSl g n cap, .int .i64 a, .int .i64 m, .int .i64 b, CfV] w fun e w' => e = .returned (.tuple #[]) ∧ Srt g n M w w' :=
  symMerge_any g n cap M hn (b - a) a m b w (Nat.le_refl _) h2 h3 h4 h5 h6
theorem permIn_mem {d d' : Array BLab} {a b : Nat} (hb : b ≤ d.size) (h : Sort.PermIn a b d d') (x : BLab) (hx : x ∈ d'.toList) : x ∈ d.toList := by
  have hm := Sort.permIn_mono d d' a b 0 d.size (Nat.zero_le _) hb (Nat.le_refl _) h
  obtain ⟨h1, -, h3⟩ := hm
  have e1 : d.extract 0 d.size = d := by simp
  have e2 : d'.extract 0 d.size = d' := by rw [← h1]; simp
  rw [e1, e2] at h3
  exact h3.mem_iff.1 hx
theorem insert_any (g n cap : Nat) (M : List BLab) (hn : n ≤ 1000000) (a b : Nat) (w : World) (h2 : a ≤ b) (h4 : b ≤ n) (h5 : g < w.heap.size) (h6 : RowOf g n M w) :
    Calls Tryz.prog 62 #[LSl g n cap, .int .i64 a, .int .i64 b, CfV] w fun e w' => e = .returned (.tuple #[]) ∧ Srt g n M w w' := by
  obtain ⟨dk, hH, rfl, hm⟩ := h6
  refine (insertion_any g 0 cap a b dk w hH h5 h2 h4 hn).mono ?_
  rintro e w' ⟨he, k, os, rfl⟩
  have hp := (Sort.insertionSort_holds swo_cfB dk a b h2 h4).1
  exact ⟨he, Srt.of_sortW dk _ _ _ h5 hH rfl hp.1 (fun x hx => hm x (permIn_mem h4 hp x hx))⟩
set_option maxRecDepth 100000 in
set_option maxHeartbeats 4000000 in
theorem stable_any (g n cap : Nat) (M : List BLab) (w : World) (hg : g < w.heap.size) (hR : RowOf g n M w) (hn : n ≤ 1000000) :
    Calls Tryz.prog 51 #[LSl g n cap, .int .i64 n, CfV] w fun e w' => e = .returned (.tuple #[]) ∧ Srt g n M w w' := by
  have hins := insert_any g n cap M hn
  have hmer := merge_any g n cap M hn
  have HI := Lib.hid hins
  have HM := Lib.hid hmer
  clear hins hmer
  go_enter Tryz.func51, Tryz.ntmps51
  go_wp2
  go_loopw [7, 8] (fun i j wr => ∃ p q : Nat, i = .int .i64 p ∧ j = .int .i64 q ∧ q ≤ p + 20 ∧ p ≤ q ∧ p ≤ n ∧ Srt g n M w wr)
    (fun _ j _ => n + 20 - (intOf j).toNat)
  case atStart => exact ⟨0, 20, rfl, rfl, by omega, by omega, by omega, Srt.refl hR⟩
  case round =>
    obtain ⟨p, q, rfl, rfl, hpq, hqp, hp, hS⟩ := hrel
    have hgw : g < wr.heap.size := Nat.lt_of_lt_of_le hg hS.size
    by_cases hlt : q ≤ n
    · have hlt' : (q : Int) ≤ n := by omega
      have h1 := HI.out p q wr hqp hlt hgw hS.2
      go_wp2_with fail
      refine h1.mono ?_
      rintro e v1 ⟨rfl, hS1⟩
      have T1 := hS.trans hS1
      go_wp2_with fail
      go_roundw
      case rel => exact ⟨q, q + 20, rfl, by go_num, by omega, by omega, hlt, T1⟩
      case measure => simp [intOf]; omega
    · have hlt' : ¬ (q : Int) ≤ n := by omega
      have h1 := HI.out p n wr hp (Nat.le_refl _) hgw hS.2
      go_wp2_with fail
      refine h1.mono ?_
      rintro e v1 ⟨rfl, hS1⟩
      have T1 := hS.trans hS1
      have hg1 : g < v1.heap.size := Nat.lt_of_lt_of_le hg T1.size
      clear h1 hlt hlt' hpq hqp hp hgw hS hS1
      go_wp2_with fail
      go_loopw [6] (fun i wr => ∃ k : Nat, i = .int .i64 k ∧ 20 ≤ k ∧ k ≤ 2 * n + 20 ∧ Srt g n M w wr)
        (fun i _ => n - (intOf i).toNat)
      case atStart => exact ⟨20, rfl, by omega, by omega, T1⟩
      case round =>
        rename_i wr0
        obtain ⟨k, rfl, hk1, hk2, hS⟩ := hrel
        by_cases hlt : k < n
        · have hlt' : (k : Int) < n := by omega
          obtain ⟨k2, hk⟩ : ∃ k2, k2 = 2 * k := ⟨_, rfl⟩
          have ek : (2 : Int) * k = k2 := by omega
          have ek' : (k : Int) * 2 = k2 := by omega
          have HK := Lib.hid hk
          clear hk
          go_wp2_with fail
          go_loopw [7, 8] (fun i j wr => ∃ p q : Nat, i = .int .i64 p ∧ j = .int .i64 q ∧ q = p + k2 ∧ p ≤ n ∧ Srt g n M w wr)
            (fun _ j _ => n + k2 - (intOf j).toNat)
          case atStart => exact ⟨0, k2, rfl, rfl, by omega, by omega, hS⟩
          case round =>
            obtain ⟨p, q, rfl, rfl, hpq, hp, hS⟩ := hrel
            rename_i wr1
            obtain ⟨m, hm⟩ : ∃ m, m = p + k := ⟨_, rfl⟩
            have em : (p : Int) + k = m := by omega
            by_cases hq : q ≤ n
            · have hq' : (q : Int) ≤ n := by omega
              have h1 := fun W x y => HM.out p m q W (by omega) (by have := HK.out; omega) hq x y
              obtain ⟨r, hr⟩ : ∃ r, r = q + k2 := ⟨_, rfl⟩
              have er : (q : Int) + k2 = r := by omega
              have HR := Lib.hid hr
              have HPQ := Lib.hid hpq
              clear hpq hr hm
              go_wp2_with fail
              refine (h1 _ (Nat.lt_of_lt_of_le hg hS.size) hS.2).mono ?_
              rintro e v2 ⟨rfl, hS1⟩
              have T2 := hS.trans hS1
              go_wp2_with fail
              go_roundw
              case rel => exact ⟨q, r, rfl, rfl, HR.out, hq, T2⟩
              case measure => have := HR.out; have := HK.out; simp [intOf]; omega
            · have hq' : ¬ (q : Int) ≤ n := by omega
              have hk3 : k2 ≤ 2 * n + 20 := by have := HK.out; omega
              by_cases hmn : m < n
              · have hmn' : (m : Int) < n := by omega
                have h1 := fun W x y => HM.out p m n W (by omega) hmn (Nat.le_refl _) x y
                have HPQ := Lib.hid hpq
                clear hpq hm
                go_wp2_with fail
                refine (h1 _ (Nat.lt_of_lt_of_le hg hS.size) hS.2).mono ?_
                rintro e v2 ⟨rfl, hS1⟩
                have T2 := hS.trans hS1
                go_wp2_with fail
                go_roundw
                case rel => exact ⟨k2, rfl, by have := HK.out; omega, hk3, T2⟩
                case measure => have := HK.out; simp [intOf]; omega
              · have hmn' : ¬ (m : Int) < n := by omega
                have HPQ := Lib.hid hpq
                clear hpq hm
                go_wp2_with fail
                go_roundw
                case rel => exact ⟨k2, rfl, by have := HK.out; omega, hk3, hS⟩
                case measure => have := HK.out; simp [intOf]; omega
        · have hlt' : ¬ (k : Int) < n := by omega
          go_wp2_with fail
          go_end0
          exact ⟨rfl, hS⟩
theorem sortLaw_all (n : Nat) : SortLaw n := fun g cap d W h1 h2 h3 h4 => by
  by_cases h : d.size < 20
  · exact sortLaw_few g cap d W h h2 h3 h4
  · have hS := stable_any g d.size cap d.toList W h3 ⟨d, h2, rfl, fun _ hx => hx⟩ h4
    have HS : Hid _ := Lib.hid h2
    clear h2
    go_enter Tryz.func28, Tryz.ntmps28
    go_wp2_with (go_at_call 51; refine hS.mono ?_; rintro e w' ⟨rfl, hg, dk, k1, k2, k3⟩)
    go_end0
    exact ⟨rfl, dk, hg, k1, k2, k3, fun h' => absurd h' h⟩
theorem parse_str (s : ByteArray) (w : World) (hs : s.size ≤ 100000) :
    Calls Tryz.prog 11 #[.string s] w fun e w' => Below w.heap.size w w' ∧ ParseP w' (parseA s.data.toList) e :=
  parse_any (s.size + 3) (sortLaw_all _) s w hs fun L h => by
    have := (readB_le _ _ h).2.2
    rw [data_length] at this
    omega
theorem parse_empty (w : World) : Calls Tryz.prog 11 #[.string ⟨#[]⟩] w fun e w' => e = .returned (.tuple #[.slice none 0 0, .int .i64 40]) ∧ Below w.heap.size w w' := by
  refine (parse_str ⟨#[]⟩ w (by decide)).mono ?_
  rintro e w' ⟨hB, ⟨-, h2⟩ | ⟨L, v, h1, -⟩⟩
  · exact ⟨h2, hB⟩
  · have h : parseA [] = none := by kernel_rfl
    have h1' : parseA [] = some L := h1
    rw [h] at h1'
    cases h1'
end Go.Proofs.YtjhdgpboofcelaaGreat
