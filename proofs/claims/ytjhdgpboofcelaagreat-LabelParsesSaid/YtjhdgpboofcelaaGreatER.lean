/- The references: one. -/
import Derived.Test.YtjhdgpboofcelaaGreatEQ
namespace Go.Proofs.YtjhdgpboofcelaaGreat
open Go.RowKit

theorem oneR_at : ∀ (l : List UInt8) (k : Nat) (hk : k < l.length), (∀ b ∈ l.take k, b ≠ 61) → l[k] = 61 → oneR l = (valR (l.drop (k + 1))).map fun x => ((l.take k, x.1), x.2)
  | [], k, hk, _, _ => by simp at hk
  | c :: l, 0, _, _, h => by
    have h' : c = 61 := h
    rw [oneR, if_pos h']
    rfl
  | c :: l, k + 1, hk, h1, h2 => by
    have hc : ¬ c = 61 := h1 c (by simp)
    have ih := oneR_at l k (by simpa using hk) (fun b hb => h1 b (by simp [hb])) (by simpa using h2)
    rw [oneR, if_neg hc, ih, Option.map_map]
    rfl
theorem oneR_none : ∀ (l : List UInt8), (∀ b ∈ l, b ≠ 61) → oneR l = none
  | [], _ => rfl
  | c :: l, h => by
    rw [oneR, if_neg (h c (by simp)), oneR_none l fun b hb => h b (by simp [hb])]
    rfl
/-- The rest of a value, behind what is read of it. -/
def behind (V : List UInt8) (o : Option (List UInt8 × List UInt8)) : Option (List UInt8 × List UInt8) := o.map fun x => (V ++ x.1, x.2)
theorem behind_nil (o : Option (List UInt8 × List UInt8)) : behind [] o = o := by
  cases o <;> rfl
theorem behind_cons (V : List UInt8) (c : UInt8) (o : Option (List UInt8 × List UInt8)) : behind V (o.map fun x => (c :: x.1, x.2)) = behind (V ++ [c]) o := by
  cases o
  · rfl
  · simp [behind]
theorem valR_end (l : List UInt8) (i : Nat) (h : l.length ≤ i) : valR (l.drop i) = some ([], []) := by
  rw [List.drop_eq_nil_of_le h]
  rfl
theorem valR_comma (l : List UInt8) (i : Nat) (h : i < l.length) (hc : l[i] = 44) : valR (l.drop i) = some ([], l.drop i) := by
  rw [List.drop_eq_getElem_cons h, valR.eq_def]
  simp only
  rw [if_pos hc]
theorem valR_esc (l : List UInt8) (i : Nat) (h : i < l.length) (hc : l[i] = 92) : valR (l.drop i) = if h2 : i + 1 < l.length then (valR (l.drop (i + 2))).map fun x => (l[i + 1] :: x.1, x.2) else none := by
  rw [List.drop_eq_getElem_cons h, valR.eq_def]
  simp only
  rw [if_neg (by rw [hc]; decide), if_pos hc]
  by_cases h2 : i + 1 < l.length
  · rw [dif_pos h2, List.drop_eq_getElem_cons h2]
  · rw [dif_neg h2, List.drop_eq_nil_of_le (by omega)]
theorem valR_plain (l : List UInt8) (i : Nat) (h : i < l.length) (h1 : l[i] ≠ 44) (h2 : l[i] ≠ 92) : valR (l.drop i) = (valR (l.drop (i + 1))).map fun x => (l[i] :: x.1, x.2) := by
  rw [List.drop_eq_getElem_cons h, valR.eq_def]
  simp only
  rw [if_neg h1, if_neg h2]
/-- What 'one' tells. -/
def OneP (o : Option ((List UInt8 × List UInt8) × List UInt8)) (e : Ending) : Prop :=
  (o = none ∧ ∃ x r, e = .returned (.tuple #[LabV x, .string r, .bool false])) ∨ (∃ x m, o = some (x, m) ∧ e = .returned (.tuple #[LabV (bl x), .string ⟨m.toArray⟩, .bool true]))
theorem extract_one (s : ByteArray) (i : Nat) (h : i < s.size) : s.extract i (i + 1) = (⟨#[s[i]]⟩ : ByteArray) := by
  apply ByteArray.ext
  apply Array.toList_inj.1
  rw [Lib.extract_data, show i + 1 - i = 1 by omega, List.drop_eq_getElem_cons (by rw [data_length]; exact h), byte_at s i h]
  rfl
theorem extract_drop (s : ByteArray) (i : Nat) : s.extract i s.size = (⟨(s.data.toList.drop i).toArray⟩ : ByteArray) := by
  apply ByteArray.ext
  apply Array.toList_inj.1
  exact extract_tail s i
theorem extract_head (s : ByteArray) (i : Nat) (h : i ≤ s.size) : s.extract 0 i = (⟨(s.data.toList.take i).toArray⟩ : ByteArray) := by
  apply ByteArray.ext
  apply Array.toList_inj.1
  rw [Lib.extract_data]
  simp
theorem mk_list (V : ByteArray) : (⟨V.data.toList.toArray⟩ : ByteArray) = V := by
  apply ByteArray.ext
  simp
theorem push_one (V : ByteArray) (b : UInt8) : (V ++ (⟨#[b]⟩ : ByteArray)).data.toList = V.data.toList ++ [b] := by simp
abbrev OneV (O : Option ((List UInt8 × List UInt8) × List UInt8)) (N : List UInt8) (o : Option (List UInt8 × List UInt8)) : Prop := O = o.map fun x => ((N, x.1), x.2)
theorem OneP.yes {O : Option ((List UInt8 × List UInt8) × List UInt8)} {N m : List UInt8} {V : ByteArray} {e : Ending} (hO : OneV O N (behind V.data.toList (some ([], m)))) (he : e = .returned (.tuple #[.agg #[.string ⟨N.toArray⟩, .string V], .string ⟨m.toArray⟩, .bool true])) : OneP O e := by
  refine .inr ⟨(N, V.data.toList), m, ?_, ?_⟩
  · rw [hO]; simp [behind]
  · rw [he]
theorem OneP.no {O : Option ((List UInt8 × List UInt8) × List UInt8)} {e : Ending} (hO : O = none) {a b c : ByteArray} (he : e = .returned (.tuple #[.agg #[.string a, .string b], .string c, .bool false])) : OneP O e := .inl ⟨hO, (a, b), c, he⟩
theorem OneV.none' {O : Option ((List UInt8 × List UInt8) × List UInt8)} {N V : List UInt8} (h : OneV O N (behind V none)) : O = none := h
set_option maxRecDepth 100000 in
set_option maxHeartbeats 4000000 in
theorem one_any (s : ByteArray) (w : World) (hs : s.size ≤ 100000) :
    Calls Tryz.prog 31 #[.string s] w fun e w' => Below w.heap.size w w' ∧ OneP (oneR s.data.toList) e := by
  have mixed : Tryz.prog.follows .mixedOrders = true := by kernel_rfl
  have hA : ∀ k, (h : k < s.size) → (∀ b ∈ s.data.toList.take k, b ≠ 61) → s[k] = 61 → oneR s.data.toList = (valR (s.data.toList.drop (k + 1))).map fun x => ((s.data.toList.take k, x.1), x.2) := fun k h h1 h2 => oneR_at _ k (by rw [data_length]; exact h) h1 (by rw [byte_at s k h]; exact h2)
  have hN := oneR_none s.data.toList
  generalize hO : oneR s.data.toList = O at *
  clear hO
  go_enter Tryz.func31, Tryz.ntmps31
  go_wp2
  go_loopw [5] (fun i wr => ∃ k : Nat, k ≤ s.size ∧ i = .int .i64 k ∧ (∀ b ∈ s.data.toList.take k, b ≠ 61) ∧ wr = w.alloc (.cells #[.string ⟨#[]⟩, .string ⟨#[]⟩] 41))
    (fun i _ => s.size - (intOf i).toNat)
  case atStart => exact ⟨0, by omega, rfl, by simp, rfl⟩
  case round =>
    obtain ⟨k, hk, rfl, hall, rfl⟩ := hrel
    by_cases hks : k < s.size
    · have hki : (k : Int) < s.size := by omega
      by_cases h61 : s[k].toNat = 61
      · have d1 : ((s[k].toNat : Int) == 61) = true := by simp; omega
        have d2 : ((k : Int) == s.size) = false := by simp; omega
        have hO := hA k hks hall (UInt8.toNat_inj.1 h61)
        have hO2 : OneV O (s.data.toList.take k) (behind [] (valR (s.data.toList.drop (k + 1)))) := by rw [behind_nil]; exact hO
        have HO := Lib.hid hO2
        clear hA hN hall hO hO2
        go_wp2
        rw [extract_head s k (by omega)]
        generalize s.data.toList.take k = N at *
        go_loopw [7] (fun j wr => ∃ (i : Nat) (V : ByteArray), j = .int .i64 i ∧ i ≤ s.size ∧ RowAt wr w.heap.size 41 [.string ⟨#[]⟩, .string ⟨#[]⟩] ∧ RowAt wr (w.heap.size + 1) 41 [.string ⟨N.toArray⟩, .string V] ∧ Below w.heap.size w wr ∧ V.size ≤ i ∧ OneV O N (behind V.data.toList (valR (s.data.toList.drop i))))
          (fun j _ => s.size - (intOf j).toNat)
        case atStart => exact ⟨k + 1, ⟨#[]⟩, by go_num, by omega, (RowAt.of_new _ _ _).alloc _, RowAt.new_at (w.alloc (.cells #[.string ⟨#[]⟩, .string ⟨#[]⟩] 41)) _ _ _ (by rw [World.size_alloc]), ((Below.refl _ w).alloc (Nat.le_refl _) (.cells #[.string ⟨#[]⟩, .string ⟨#[]⟩] 41)).alloc (by rw [World.size_alloc]; omega) _, Nat.zero_le _, HO.out⟩
        case round =>
          clear HO
          obtain ⟨i, V, rfl, hi, hR0, hR1, hB, hV, hO⟩ := hrel
          have HR := Lib.hid (And.intro hR0 hR1)
          obtain ⟨a0, a1, b0, b1, al⟩ := hR0.two
          obtain ⟨c0, c1, e0, e1, el⟩ := hR1.two
          by_cases his : i < s.size
          · have hii : (i : Int) < s.size := by omega
            have hil : i < s.data.toList.length := by rw [data_length]; exact his
            by_cases h44 : s[i].toNat = 44
            · have f1 : ((s[i].toNat : Int) == 44) = true := by simp; omega
              rw [valR_comma _ i hil (by rw [byte_at s i his]; exact UInt8.toNat_inj.1 h44)] at hO
              have HO := Lib.hid hO
              clear hO hR0 hR1
              go_wp2
              go_big_region_o
              all_goals go_wp2
              exact bodyPost_ret (v := .tuple #[.agg #[.string ⟨N.toArray⟩, .string V], .string (s.extract i s.size), .bool true]) (by simp [results, Tryz.results31, go_sem, a0, a1, al]) rfl ⟨(by repeat (first | exact Below.refl _ _ | assumption | (refine Below.setCell ?_ (by (first | omega | (simp; done) | (simp; omega) | (simp at *; omega))) _) | (refine Below.alloc ?_ (by (first | omega | (simp; done) | (simp; omega) | (simp at *; omega))) _) | (refine Below.drew ?_) | (refine Gr.into _ ?_ (by (first | omega | (simp; done) | (simp; omega) | (simp at *; omega)))))), OneP.yes HO.out (by rw [extract_drop])⟩
            · have f1 : ((s[i].toNat : Int) == 44) = false := by simp; omega
              by_cases h92 : s[i].toNat = 92
              · have f2 : ((s[i].toNat : Int) == 92) = true := by simp; omega
                rw [valR_esc _ i hil (by rw [byte_at s i his]; exact UInt8.toNat_inj.1 h92)] at hO
                by_cases h2 : i + 1 < s.size
                · have f3 : ((i : Int) + 1 == s.size) = false := by simp; omega
                  rw [dif_pos (by rw [data_length]; exact h2), byte_at s (i + 1) h2, behind_cons] at hO
                  have hx := extract_one s (i + 1) h2
                  have HO := Lib.hid hO
                  clear hO hR0 hR1
                  go_wp2
                  go_big_region_o
                  all_goals go_wp2
                  refine ⟨⟨i + 2, V ++ ⟨#[s[i + 1]]⟩, by go_num, by omega, ((HR.out.1.setOther _ _ (by show w.heap.size ≠ w.heap.size + 1; omega)).drew), (HR.out.2.set 1 _).drew, (hB.setCell (by show _ ≤ w.heap.size + 1; omega) _).drew, by rw [ByteArray.size_append]; show _ + 1 ≤ _; omega, by rw [push_one]; exact HO.out⟩, by simp [intOf]; omega⟩
                · have f3 : ((i : Int) + 1 == s.size) = true := by simp; omega
                  rw [dif_neg (by rw [data_length]; exact h2)] at hO
                  have HO := Lib.hid hO
                  clear hO hR0 hR1
                  go_wp2
                  exact bodyPost_ret (v := .tuple #[.agg #[.string ⟨N.toArray⟩, .string V], .string s, .bool false]) (by simp [results, Tryz.results31, go_sem, a0, a1, al]) rfl ⟨(by repeat (first | exact Below.refl _ _ | assumption | (refine Below.setCell ?_ (by (first | omega | (simp; done) | (simp; omega) | (simp at *; omega))) _) | (refine Below.alloc ?_ (by (first | omega | (simp; done) | (simp; omega) | (simp at *; omega))) _) | (refine Below.drew ?_) | (refine Gr.into _ ?_ (by (first | omega | (simp; done) | (simp; omega) | (simp at *; omega)))))), OneP.no (OneV.none' HO.out) rfl⟩
              · have f2 : ((s[i].toNat : Int) == 92) = false := by simp; omega
                rw [valR_plain _ i hil (by rw [byte_at s i his]; intro h; exact h44 (by rw [h]; rfl)) (by rw [byte_at s i his]; intro h; exact h92 (by rw [h]; rfl)), byte_at s i his, behind_cons] at hO
                have HO := Lib.hid hO
                clear hO hR0 hR1
                go_wp2
                go_big_region_o
                all_goals go_wp2
                refine ⟨⟨i + 1, V ++ s.extract i (i + 1), by go_num, by omega, ((HR.out.1.setOther _ _ (by show w.heap.size ≠ w.heap.size + 1; omega)).drew), (HR.out.2.set 1 _).drew, (hB.setCell (by show _ ≤ w.heap.size + 1; omega) _).drew, by rw [extract_one s i his, ByteArray.size_append]; show _ + 1 ≤ _; omega, by rw [extract_one s i his, push_one]; exact HO.out⟩, by simp [intOf]; omega⟩
          · have hii : ¬ (i : Int) < s.size := by omega
            rw [valR_end _ i (by rw [data_length]; omega)] at hO
            have HO := Lib.hid hO
            clear hO hR0 hR1
            go_wp2
            exact bodyPost_ret (v := .tuple #[.agg #[.string ⟨N.toArray⟩, .string V], .string ⟨([] : List UInt8).toArray⟩, .bool true]) (by simp [results, Tryz.results31, go_sem, a0, a1, al]) rfl ⟨(by repeat (first | exact Below.refl _ _ | assumption | (refine Below.setCell ?_ (by (first | omega | (simp; done) | (simp; omega) | (simp at *; omega))) _) | (refine Below.alloc ?_ (by (first | omega | (simp; done) | (simp; omega) | (simp at *; omega))) _) | (refine Below.drew ?_) | (refine Gr.into _ ?_ (by (first | omega | (simp; done) | (simp; omega) | (simp at *; omega)))))), OneP.yes HO.out rfl⟩
      · have d1 : ((s[k].toNat : Int) == 61) = false := by simp; omega
        have hne : ∀ b ∈ s.data.toList.take (k + 1), b ≠ 61 := fun b hb => by
          rw [List.take_succ_eq_append_getElem (by rw [data_length]; exact hks), byte_at s k hks] at hb
          rcases List.mem_append.1 hb with hb | hb
          · exact hall b hb
          · simp at hb
            subst hb
            intro h
            exact h61 (by rw [h]; rfl)
        have HN := Lib.hid hne
        clear hA hN hall hne
        go_wp2
        go_roundw
        case rel => exact ⟨k + 1, by omega, by go_num, HN.out, by first | rfl | trivial⟩
        case measure => simp [intOf]; omega
    · have hki : ¬ (k : Int) < s.size := by omega
      have d2 : ((k : Int) == s.size) = true := by simp; omega
      rw [List.take_of_length_le (by rw [data_length]; omega)] at hall
      have hO := hN hall
      subst hO
      clear hA hN hall
      go_wp2
      exact bodyPost_ret (v := .tuple #[.agg #[.string ⟨#[]⟩, .string ⟨#[]⟩], .string s, .bool false]) (by simp [results, Tryz.results31, go_sem]) rfl ⟨(by repeat (first | exact Below.refl _ _ | assumption | (refine Below.setCell ?_ (by (first | omega | (simp; done) | (simp; omega) | (simp at *; omega))) _) | (refine Below.alloc ?_ (by (first | omega | (simp; done) | (simp; omega) | (simp at *; omega))) _) | (refine Below.drew ?_) | (refine Gr.into _ ?_ (by (first | omega | (simp; done) | (simp; omega) | (simp at *; omega)))))), OneP.no rfl rfl⟩
end Go.Proofs.YtjhdgpboofcelaaGreat
