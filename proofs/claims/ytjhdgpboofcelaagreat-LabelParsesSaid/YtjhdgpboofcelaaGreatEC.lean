/- The references: List, Runes. -/
import Derived.Test.YtjhdgpboofcelaaGreatEB
namespace Go.Proofs.YtjhdgpboofcelaaGreat
open Go.RowKit
open Go.Lib (decodeL validD)

/-- Texts in memory, cell by cell. -/
def txtCells (C : List (List UInt8)) : List Value := C.map fun c => .string ⟨c.toArray⟩
theorem sizeA_of (s : ByteArray) (pos r k : Nat) (hp : pos < s.size) (hd : Utf8.decode s pos = (r, k)) : sizeA (s.data.toList.drop pos) = if r = 65533 ∧ k = 1 then 0 else k := by
  unfold sizeA
  rw [if_neg (drop_ne s pos hp), Lib.decodeL_drop, hd]
/-- What List tells. -/
def ListP (B : Nat) (w' : World) (V : Bool) (C : List (List UInt8)) (e : Ending) : Prop :=
  (V = false ∧ e = .returned (.tuple #[.slice none 0 0, .bool false])) ∨ (V = true ∧ ∃ v, e = .returned (.tuple #[v, .bool true]) ∧ w'.ownsRow B 9 1 v C.length (txtCells C))
set_option maxRecDepth 100000 in
set_option maxHeartbeats 1000000 in
theorem list_any (s : ByteArray) (w : World) (hs : s.size ≤ 100000) :
    Calls Tryz.prog 34 #[.string s] w fun e w' => ListP w.heap.size w' (validD s.data.toList) (runes s.data.toList) e ∧ Below w.heap.size w w' := by
  have hT0 : s.extract 0 s.size = s := ByteArray.extract_zero_size
  have hR0 : runes (s.data.toList.drop 0) = runes s.data.toList := by simp
  have hV0 : validD (s.data.toList.drop 0) = validD s.data.toList := by simp
  generalize validD s.data.toList = V at *
  generalize runes s.data.toList = R at *
  have HR := Lib.hid hR0
  have HV := Lib.hid hV0
  have HT := Lib.hid hT0
  clear hR0 hV0 hT0
  go_enter Tryz.func34, Tryz.ntmps34
  go_wp2
  go_loopw [0, 4] (fun t o wr => ∃ (pos : Nat) (C : List (List UInt8)), t = .string (s.extract pos s.size) ∧ pos ≤ s.size ∧ wr.ownsRow w.heap.size 9 1 o C.length (txtCells C) ∧ C ++ runes (s.data.toList.drop pos) = R ∧ validD (s.data.toList.drop pos) = V ∧ C.length ≤ pos ∧ Below w.heap.size w wr)
    (fun t _ _ => match t with | .string t => t.size | _ => 0)
  case atStart => exact ⟨0, [], by rw [HT.out], by omega, World.ownsRow_nil _ _ _ _, HR.out, HV.out, by simp, Below.refl _ _⟩
  case round =>
    obtain ⟨pos, C, rfl, hp, hown, hR, hV, hC, hB⟩ := hrel
    have hBs := hB.size
    have htd : (s.extract pos s.size).data.toList = s.data.toList.drop pos := extract_tail s pos
    have hts : (s.extract pos s.size).size = s.size - pos := by rw [ByteArray.size_extract]; omega
    by_cases hpos : pos < s.size
    · obtain ⟨r, k, hd, hk1, hk2, -, e1, e2, -⟩ := rune_at s pos hpos
      have hsz := sizeA_of s pos r k hpos hd
      have hS := fun W => size_any (s.extract pos s.size) W (by omega)
      rw [htd, hsz] at hS
      rw [e1] at hR
      rw [e2] at hV
      have hne : (s.extract pos s.size).toList.isEmpty = false := by
        rw [List.isEmpty_eq_false_iff]
        intro h
        have := congrArg List.length h
        rw [Lib.toList_data, data_length, hts] at this
        simp at this
        omega
      have hx1 : (s.extract pos s.size).extract 0 k = (⟨((s.data.toList.drop pos).take k).toArray⟩ : ByteArray) := by
        apply ByteArray.ext
        apply Array.toList_inj.1
        rw [ByteArray.data_extract, Array.toList_extract, htd]
        simp
      have hx2 : (s.extract pos s.size).extract k (s.extract pos s.size).size = s.extract (pos + k) s.size := by
        apply ByteArray.ext
        apply Array.toList_inj.1
        rw [extract_tail, htd, extract_tail, List.drop_drop]
      by_cases hbad : r = 65533 ∧ k = 1
      · rw [if_pos hbad] at hV hS
        subst hV
        clear hx1 hx2 hsz hd e1 e2 hbad hR
        generalize s.extract pos s.size = t at *
        go_wp2_with fail
        refine (hS _).mono ?_
        rintro e w2 ⟨rfl, hB2⟩
        go_wp2_with fail
        go_ret2
        exact ⟨.inl ⟨rfl, rfl⟩, hB.trans (hB2.mono hBs)⟩
      · rw [if_neg hbad] at hV hS
        have hkt : (k : Int) ≤ (s.extract pos s.size).size := by omega
        have hk0 : ((k : Int) == 0) = false := by simp; omega
        have hkn : (k : Int).toNat = k := by omega
        have HX1 := Lib.hid hx1
        have HX2 := Lib.hid hx2
        have HR2 := Lib.hid hR
        have HV2 := Lib.hid hV
        have HK := Lib.hid hk2
        have HTS := Lib.hid hts
        clear hx1 hx2 hsz hd e1 e2 hbad hR hV hk2 hts htd
        generalize hT : s.extract pos s.size = t at *
        have HTT := Lib.hid hT
        clear hT
        obtain ⟨i0, hi, hz0, hz1, hz2⟩ := info_parts (show (Tryz.prog.info? 9).map (fun i => (i.zero, i.size, i.bytes)) = some (some (.string ⟨#[]⟩), 1, 16) by kernel_rfl)
        have HI := Lib.hid hi
        go_wp2_with fail
        refine (hS _).mono ?_
        rintro e w2 ⟨rfl, hB2⟩
        have hown2 := ownsRow_below hown hB2
        have hs2 := hB2.size
        go_wp2_with (at_builtin; refine wpList_append_own _ rfl _ _ 57 rfl w.heap.size 9 i0 (.string ⟨#[]⟩) 1 16 Tryz.underlying57 hi hz0 hz1 hz2 rfl (by decide) _ _ _ rfl (hown2.alloc _) ⟨w2.heap.size, 0, none⟩ 1 1 [.string (t.extract 0 k)] rfl rfl ?c1 ?c2 ?c3 ?c4 ?c5 ?_)
        case c1 =>
          intro j u hj
          match j, hj with
          | 0, hj => simp at hj; subst hj; simp [Addr.add]
        case c2 => intro u hu; simp at hu; subst hu; rfl
        case c3 => unfold maxLen; omega
        case c4 => omega
        case c5 => simp; omega
        intro v' w3 hown3 hgrow _
        have hnb : ∀ g', (u4 : Value).ownBlock = some g' → w.heap.size ≤ g' := by
          intro g' hg
          obtain ⟨-, ⟨rfl, -⟩ | ⟨g2, cap', cur, rfl, h3, -⟩⟩ := hown
          · cases hg
          · cases hg; exact h3
        have hB3 : Below w.heap.size w w3 := (Stay.grown (M := w.heap.size) (b := 0) (Stay.of_below ((hB.trans (hB2.mono hBs)).alloc (by omega) _) (Nat.le_refl _)) hgrow (by simp; omega) (fun k e => hnb k e) (Nat.le_refl _)).1
        have hown4 : w3.ownsRow w.heap.size 9 1 v' (C ++ [(s.data.toList.drop pos).take k]).length (txtCells (C ++ [(s.data.toList.drop pos).take k])) := by
          have := HX1.out
          rw [this] at hown3
          simp only [List.length_append, List.length_singleton, txtCells, List.map_append, List.map_cons, List.map_nil]
          exact hown3
        go_wp2_with fail
        refine ⟨⟨pos + k, C ++ [(s.data.toList.drop pos).take k], by rw [HX2.out], by have := HK.out; omega, hown4, ?_, HV2.out, by simp; omega, hB3⟩, ?_⟩
        · rw [List.append_assoc, List.singleton_append]
          exact HR2.out
        · show (t.extract k t.size).size < t.size
          have h1 := HTS.out
          rw [ByteArray.size_extract]
          omega
    · have hem : (s.extract pos s.size).toList.isEmpty = true := by
        rw [List.isEmpty_iff]
        apply List.eq_nil_of_length_eq_zero
        rw [Lib.toList_data, data_length, hts]
        omega
      have h0 : s.data.toList.drop pos = [] := List.drop_eq_nil_of_le (by rw [data_length]; omega)
      rw [h0] at hR hV
      have e1 : C = R := by rw [← hR]; simp [runes_nil]
      have e2 : V = true := hV.symm
      subst e1 e2
      clear hR hV h0 htd hts
      generalize s.extract pos s.size = t at *
      go_wp2
      go_ret2
      exact ⟨.inr ⟨rfl, _, rfl, hown⟩, hB⟩
theorem rrunes_any (s : ByteArray) (w : World) (hs : s.size ≤ 100000) :
    Calls Tryz.prog 15 #[.string s] w fun e w' => e = .returned (.tuple #[.int .i64 (nR s), .bool (vR s)]) ∧ Below w.heap.size w w' := by
  have h := list_any s w hs
  have hn : validD s.data.toList = true → nR s = (runes s.data.toList).length := fun h => by unfold nR; rw [if_pos h]
  have hz : validD s.data.toList = false → nR s = 0 := fun h => by unfold nR; rw [h]; rfl
  have hv : vR s = validD s.data.toList := rfl
  rw [hv]
  generalize validD s.data.toList = V at *
  generalize runes s.data.toList = R at *
  generalize nR s = N at *
  cases V
  · have := hz rfl
    subst this
    clear hn hz hv
    go_enter Tryz.func15, Tryz.ntmps15
    go_wp2_with fail
    refine h.mono ?_
    rintro e w1 ⟨⟨-, rfl⟩ | ⟨h1, -⟩, hB⟩
    · go_wp2_with fail
      go_ret2
      exact ⟨rfl, hB⟩
    · cases h1
  · have := hn rfl
    subst this
    clear hn hz hv
    go_enter Tryz.func15, Tryz.ntmps15
    go_wp2_with fail
    refine h.mono ?_
    rintro e w1 ⟨⟨h1, -⟩ | ⟨-, v, rfl, hown⟩, hB⟩
    · cases h1
    · obtain ⟨p, cap, rfl⟩ : ∃ p cap, v = .slice p R.length cap := by
        obtain ⟨-, ⟨h1, h2⟩ | ⟨g2, cap', cur, h1, -⟩⟩ := hown
        · exact ⟨none, 0, by rw [h1, h2]⟩
        · exact ⟨_, _, h1⟩
      clear hown
      go_wp2_with fail
      go_ret2
      exact ⟨rfl, hB⟩
end Go.Proofs.YtjhdgpboofcelaaGreat
