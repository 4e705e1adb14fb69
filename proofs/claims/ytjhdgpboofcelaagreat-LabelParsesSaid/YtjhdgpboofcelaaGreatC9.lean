/- strings.Replacer: a text with a backslash ahead of each comma and backslash. -/
import Derived.Test.YtjhdgpboofcelaaGreatC8
import Derived.Test.YtjhdgpboofcelaaGreatB1
import Derived.Laws.IdiomCopy
import Derived.Test.YtjhdgpboofcelaaGreatFree
namespace Go.Proofs.YtjhdgpboofcelaaGreat
open Go.RowKit

theorem fillS (l : List UInt8) (i : Nat) (h : i < l.length) : l.getD i 0 = l[i] := by
  rw [List.getD_eq_getElem?_getD, List.getElem?_eq_getElem h]; rfl
/-- A text's head as it is put down, zeros behind. -/
def fillB (l : List UInt8) (k : Nat) : List UInt8 := esc (l.take k) ++ List.replicate ((esc l).length - (esc (l.take k)).length) 0
theorem fillB_zero (l : List UInt8) : fillB l 0 = List.replicate (esc l).length 0 := by simp [fillB, esc]
theorem fillB_all (l : List UInt8) : fillB l l.length = esc l := by simp [fillB]
theorem esc_take_le (l : List UInt8) (k : Nat) : (esc (l.take k)).length ≤ (esc l).length := by
  have h : esc l = esc (l.take k) ++ esc (l.drop k) := by rw [← esc_append, List.take_append_drop]
  rw [h, List.length_append]
  omega
theorem fillB_length (l : List UInt8) (k : Nat) : (fillB l k).length = (esc l).length := by
  have := esc_take_le l k
  simp [fillB]
  omega
theorem set_two (A : List UInt8) (n : Nat) (x y : UInt8) (h : 2 ≤ n) : ((A ++ List.replicate n 0).set A.length x).set (A.length + 1) y = A ++ [x, y] ++ List.replicate (n - 2) 0 := by
  obtain ⟨m, rfl⟩ : ∃ m, n = m + 2 := ⟨n - 2, by omega⟩
  simp [List.replicate_succ, List.set_append]
theorem set_one (A : List UInt8) (n : Nat) (x : UInt8) (h : 1 ≤ n) : (A ++ List.replicate n 0).set A.length x = A ++ [x] ++ List.replicate (n - 1) 0 := by
  obtain ⟨m, rfl⟩ : ∃ m, n = m + 1 := ⟨n - 1, by omega⟩
  simp [List.replicate_succ, List.set_append]
theorem fillB_esc (l : List UInt8) (k : Nat) (hk : k < l.length) (b : UInt8) (hb : l[k] = b) (h : b = 92 ∨ b = 44) :
    ((fillB l k).set (esc (l.take k)).length 92).set ((esc (l.take k)).length + 1) b = fillB l (k + 1) ∧ (esc (l.take (k + 1))).length = (esc (l.take k)).length + 2 := by
  have h1 := esc_take l k hk
  have h2 := esc_take_le l (k + 1)
  rw [hb, escB, if_pos h] at h1
  rw [h1, List.length_append] at h2
  simp only [List.length_cons, List.length_nil] at h2
  refine ⟨?_, by rw [h1]; simp⟩
  unfold fillB
  rw [set_two _ _ _ _ (by omega), h1, List.length_append]
  congr 2
theorem fillB_one (l : List UInt8) (k : Nat) (hk : k < l.length) (b : UInt8) (hb : l[k] = b) (h : ¬ (b = 92 ∨ b = 44)) :
    (fillB l k).set (esc (l.take k)).length b = fillB l (k + 1) ∧ (esc (l.take (k + 1))).length = (esc (l.take k)).length + 1 := by
  have h1 := esc_take l k hk
  have h2 := esc_take_le l (k + 1)
  rw [hb, escB, if_neg h] at h1
  rw [h1, List.length_append] at h2
  simp only [List.length_cons, List.length_nil] at h2
  refine ⟨?_, by rw [h1]; simp⟩
  unfold fillB
  rw [set_one _ _ _ (by omega), h1, List.length_append]
  rfl
theorem byteCells_zero (n : Nat) : Lib.byteCells (List.replicate n 0) = (Array.replicate n (Value.int .u8 0)).toList := by
  simp [Lib.byteCells]
theorem make_zero (n : Nat) (hn : n ≤ 10000000) (w : World) : Sem.run Tryz.prog (Instr.makeSlice 66 (.int .i64 n) (.int .i64 n)) w = .ok (.slice (some ⟨w.heap.size, 0, none⟩) n n) (w.alloc (.cells (Array.replicate n (.int .u8 0)) 5)) := by
  have hi : (Tryz.prog.info? 5).map (fun i => (i.zero, i.size, i.bytes)) = some (some (.int .u8 0), 1, 1) := by kernel_rfl
  obtain ⟨i0, hi, hz0, hz1, hz2⟩ := info_parts hi
  have h := run_makeSlice (P := Tryz.prog) w 66 5 i0 (.int .u8 0) Tryz.underlying66 hi hz0 .i64 .i64 n n (by omega) (by omega) (by rw [hz1]; omega) (by rw [hz2]; omega) (by omega)
  have e : madeCells (Value.int .u8 0).cells (Int.toNat n * 1) = Array.replicate n (.int .u8 0) := by
    unfold madeCells
    apply Array.ext
    · simp
    · intro i h1 h2
      simp [Value.cells, Nat.mod_one]
  rw [h, hz1, e]
  rfl
theorem slice_tail (bb n j : Nat) (h : j < n) (w : World) : Sem.run Tryz.prog (Instr.slice 66 (.slice (some ⟨bb, 0, none⟩) n n) (some (.int .i64 j)) none none) w = .ok (.slice (some ⟨bb, j, none⟩) (n - j) (n - j)) w := by
  have ht : Tryz.prog.underlying 66 = some (.slice (Tryz.prog.elem 66)) := by kernel_rfl
  have hs : ∀ w, Sem.run Tryz.prog (sizeOf (Tryz.prog.elem 66)) w = .ok 1 w := fun w => by kernel_rfl
  rw [run_slice_l w _ _ _ _ ht .i64 j (by omega) (by omega), hs]
  have e : (⟨bb, 0, none⟩ : Addr).add (j * 1) = ⟨bb, j, none⟩ := by by_cases h0 : j = 0 <;> simp [Addr.add, h0]
  have e2 : ¬ n = j := by omega
  simp only [Result.andThen, sliced, Int.toNat_natCast, if_neg e2, Option.map_some, e]
theorem copy_two (W : World) (b1 bb jj n k1 : Nat) (x y : UInt8) (F : List UInt8) (h1 : RowAt W b1 5 (Lib.byteCells [x, y])) (hrow : RowAt W bb 5 (Lib.byteCells F)) (hj : jj + 2 ≤ F.length) (hn : 2 ≤ n) :
    Sem.run Tryz.prog (Builtin.copy_ #[66, 66] 3 #[.slice (some ⟨bb, jj, none⟩) n n, .slice (some ⟨b1, 0, none⟩) 2 k1]) W = .ok (.int .i64 2) ((W.setCell ⟨bb, jj, none⟩ (.int .u8 (x.toNat : Nat))).setCell ⟨bb, jj + 1, none⟩ (.int .u8 (y.toNat : Nat))) := by
  have hs : (Tryz.prog.info? 5).map (·.size) = some 1 := by kernel_rfl
  have hl : (Lib.byteCells F).length = F.length := by simp [Lib.byteCells]
  have h := run_copy_cells (P := Tryz.prog) W 66 66 3 5 bb jj n n ⟨b1, 0, none⟩ 2 k1 [.int .u8 (x.toNat : Nat), .int .u8 (y.toNat : Nat)] Tryz.underlying66 hs (by show 2 = Nat.min 2 n; exact (Nat.min_eq_left hn).symm)
    (fun j v hv => by
      match j, hv with
      | 0, hv => simp at hv; rw [← hv]; exact h1.cell 0 (by simp [Lib.byteCells])
      | 1, hv => simp at hv; rw [← hv]; exact h1.cell 1 (by simp [Lib.byteCells])
      | j + 2, hv => simp at hv)
    (fun j hj' => by simp at hj'; rw [hrow.cell (jj + j) (by rw [hl]; omega)]; rfl)
    (fun j hj' => by simp at hj'; exact hrow.frozen (jj + j) (by rw [hl]; omega))
    (by simp [Value.oneCell'])
  rw [h]
  rfl
set_option maxRecDepth 100000 in
set_option maxHeartbeats 2000000 in
theorem replace_long (q : Nat) (s : ByteArray) (w : World) (hq : IsRepl w q) (hs : s.size ≤ 1000000) (hl : 16 ≤ s.size) :
    Calls Tryz.prog 135 #[.pointer (some ⟨q, 0, none⟩), .string s] w fun e w' => e = .returned (.string ⟨(esc s.data.toList).toArray⟩) ∧ Below w.heap.size w w' := by
  have hq0 := hq
  obtain ⟨b1, b2, tb, k1, k2, hR, h1, h2, h3⟩ := hq
  have rc92 : w.cell? ⟨q, 92, none⟩ = some (.slice (some ⟨b1, 0, none⟩) 2 k1) := (hR.cell 92 (by omega)).1
  have rc44 : w.cell? ⟨q, 44, none⟩ = some (.slice (some ⟨b2, 0, none⟩) 2 k2) := (hR.cell 44 (by omega)).1
  have rc256 : w.cell? ⟨q, 256, none⟩ = some (.slice (some ⟨tb, 0, none⟩) 2 2) := (hR.cell 256 (by omega)).1
  obtain ⟨tc0, tc1, tf0, tf1, tl⟩ := h3.two
  have hl' : (16 : Int) ≤ (s.size : Int) := by omega
  have hix1 : ∀ (w : World), Sem.run Tryz.prog (Instr.index 9 (.string sE) (.int .i64 0)) w = .ok (.int .u8 92) w := fun w => by kernel_rfl
  have hix2 : ∀ (w : World), Sem.run Tryz.prog (Instr.index 9 (.string sC) (.int .i64 0)) w = .ok (.int .u8 44) w := fun w => by kernel_rfl
  have hn1 := List.count_le_length (a := (92 : UInt8)) (l := s.data.toList)
  have hn2 := List.count_le_length (a := (44 : UInt8)) (l := s.data.toList)
  rw [data_length] at hn1 hn2
  have hC1 := Tryz.strings_Count_one s 92
  have hC2 := Tryz.strings_Count_one s 44
  unfold Lib.countByte at hC1 hC2
  have hlen := esc_length s.data.toList
  rw [data_length] at hlen
  have hsame := esc_same s.data.toList
  generalize s.data.toList.count 92 = n1 at *
  generalize s.data.toList.count 44 = n2 at *
  have HL := Lib.hid hlen
  clear hlen
  go_enter Tryz.func135, Tryz.ntmps135
  go_wp2
  go_loopw [5, 6, 32] (fun z any i wr => ∃ k m : Nat, k ≤ 2 ∧ m = (if k = 0 then 0 else if k = 1 then n1 else n1 + n2) ∧ i = .int .i64 k ∧ z = .int .i64 (s.size + m : Nat) ∧ any = .bool (decide (m ≠ 0)) ∧ Below w.heap.size w wr)
    (fun _ _ i _ => 2 - (intOf i).toNat)
  case atStart => exact ⟨0, 0, by omega, rfl, rfl, rfl, rfl, Below.refl _ _⟩
  case round =>
    obtain ⟨k, m, hk, hm, rfl, rfl, rfl, hB⟩ := hrel
    have tc0' := (hB.cell (p := ⟨tb, 0, none⟩) tl).trans tc0
    have tc1' := (hB.cell (p := ⟨tb, 1, none⟩) tl).trans tc1
    have rc92' := (hB.cell (p := ⟨q, 92, none⟩) hR.lt).trans rc92
    have rc44' := (hB.cell (p := ⟨q, 44, none⟩) hR.lt).trans rc44
    have hql := Nat.lt_of_lt_of_le hR.lt hB.size
    have htl := Nat.lt_of_lt_of_le tl hB.size
    have : k = 0 ∨ k = 1 ∨ k = 2 := by omega
    rcases this with rfl | rfl | rfl
    · obtain rfl : m = 0 := hm
      by_cases h0 : n1 = 0
      · subst h0
        go_wp2_with (go_at_call 137; refine (hC1 _).mono ?_; rintro e w' ⟨rfl, rfl⟩)
        go_roundw
        case rel => exact ⟨1, 0, by omega, rfl, rfl, rfl, rfl, hB⟩
        case measure => simp [intOf]
      · have hz : ((n1 : Int) != 0) = true := by simp; omega
        have hw1 : IntKind.i64.wrap ((n1 : Int) * 1) = (n1 : Int) := by rw [IntKind.wrap_i64]; omega
        have hw2 : IntKind.i64.wrap ((s.size : Int) + (n1 : Int)) = (s.size : Int) + (n1 : Int) := by rw [IntKind.wrap_i64]; omega
        go_wp2_with (go_at_call 137; refine (hC1 _).mono ?_; rintro e w' ⟨rfl, rfl⟩)
        refine wp_region_gr (by kernel_rfl) (by kernel_rfl) ?_
        repeat (go_big_quiet_step (first | fail))
        refine wpQuiet_nil ?_
        intro g
        go_wp2
        go_roundw
        case rel => exact ⟨1, n1, by omega, rfl, rfl, by simp, by simp [h0], hB.trans (g.below.mono hB.size)⟩
        case measure => simp [intOf]
    · obtain rfl : m = n1 := hm
      by_cases h0 : n2 = 0
      · subst h0
        go_wp2_with (go_at_call 137; refine (hC2 _).mono ?_; rintro e w' ⟨rfl, rfl⟩)
        go_roundw
        case rel => exact ⟨2, m, by omega, by simp, rfl, rfl, by simp, hB⟩
        case measure => simp [intOf]
      · have hz : ((n2 : Int) != 0) = true := by simp; omega
        have hw1 : IntKind.i64.wrap ((n2 : Int) * 1) = (n2 : Int) := by rw [IntKind.wrap_i64]; omega
        have hw2 : IntKind.i64.wrap ((s.size : Int) + (m : Int) + (n2 : Int)) = (s.size : Int) + (m : Int) + (n2 : Int) := by rw [IntKind.wrap_i64]; omega
        go_wp2_with (go_at_call 137; refine (hC2 _).mono ?_; rintro e w' ⟨rfl, rfl⟩)
        refine wp_region_gr (by kernel_rfl) (by kernel_rfl) ?_
        repeat (go_big_quiet_step (first | fail))
        refine wpQuiet_nil ?_
        intro g
        go_wp2
        go_roundw
        case rel => exact ⟨2, m + n2, by omega, rfl, rfl, by simp; omega, by simp; omega, hB.trans (g.below.mono hB.size)⟩
        case measure => simp [intOf]
    · replace hm : m = n1 + n2 := hm
      have HM := Lib.hid hm
      clear hm
      clear tc0' tc1' rc92' rc44' hix1 hix2 hC1 hC2 rc92 rc44 rc256 tc0 tc1 tf0 tf1
      by_cases h0 : m = 0
      · subst h0
        have he : esc s.data.toList = s.data.toList := hsame (by have := HM.out; omega)
        have HE := Lib.hid he
        clear he hsame
        go_wp2
        go_ret
        exact ⟨by rw [HE.out]; rfl, hB⟩
      · have hd : decide (m ≠ 0) = true := by simp [h0]
        rw [hd]
        have hN : (esc s.data.toList).length = s.size + m := by rw [HL.out, HM.out]
        have hmb : m ≤ 2000000 := by have := HM.out; omega
        have HLM : Hid (s.size + (n1 + n2) = s.size + m) := Lib.hid (by rw [HM.out])
        clear HM
        generalize s.size + m = N at *
        try rw [show ((2 : Nat) : Int) = 2 from rfl]
        have hNb : N ≤ 3000000 := by have := esc_le s.data.toList; rw [data_length] at this; omega
        have hmk := make_zero N (by omega)
        clear hmb
        clear hsame hn1 hn2
        go_wp2
        refine wp_named (fun W hW => ?_)
        have hbb : RowAt W wr.heap.size 5 (Lib.byteCells (List.replicate N 0)) := by rw [hW, byteCells_zero]; exact RowAt.of_new _ _ _
        have hBW : Below w.heap.size w W := by rw [hW]; exact hB.alloc hB.size _
        have hbl := hB.size
        generalize wr.heap.size = bb at *
        clear hW hmk hB
        skip
        go_loopw [13, 14] (fun j i wr => ∃ k : Nat, k ≤ s.size ∧ i = .int .i64 k ∧ j = .int .i64 (esc (s.data.toList.take k)).length ∧ RowAt wr bb 5 (Lib.byteCells (fillB s.data.toList k)) ∧ Below w.heap.size w wr)
          (fun _ i _ => s.size - (intOf i).toNat)
        case atStart => exact ⟨0, by omega, rfl, rfl, by rw [fillB_zero s.data.toList, hN]; exact hbb, hBW⟩
        case round =>
          obtain ⟨k, hk, rfl, rfl, hrow, hB⟩ := hrel
          by_cases hlk : k < s.size
          · have hrl := hrow.lt
            have hRk := hR.into hB
            have h1k := h1.into hB
            have h2k := h2.into hB
            have hix := index_at (P := Tryz.prog) 9 s .i64 (k : Int) k Tryz.underlying9 rfl hlk
            have hkl : k < s.data.toList.length := by rw [data_length]; exact hlk
            have hsk : s.data.toList[k] = s[k] := rfl
            have qN : ∀ (w : World) (a : Option Addr) (n c n' c' : Nat), (binOp .neq 66 (.slice a n c) (.slice none n' c')).run Tryz.prog w = .ok (.bool (!a.isNone)) w := fun w a n c n' c' => run_neq_slice_nil_any w _ _ a n c n' c' Tryz.underlying66
            have hqk := hRk.lt
            have hle := esc_take_le s.data.toList k
            by_cases hb : s[k] = 92
            · obtain ⟨hf1, hf2⟩ := fillB_esc s.data.toList k hkl 92 hb (.inl rfl)
              have hle2 := esc_take_le s.data.toList (k + 1)
              have hix' : ∀ w, Sem.run Tryz.prog (Instr.index 9 (.string s) (.int .i64 k)) w = .ok (.int .u8 92) w := fun w => by have := hix w; rw [hb] at this; exact this
              have rck : wr.cell? ⟨q, 92, none⟩ = some (.slice (some ⟨b1, 0, none⟩) 2 k1) := (hRk.cell 92 (by omega)).1
              clear hix hb hsk
              rw [hN] at hle hle2
              rw [hf2] at hle2
              have HF := Lib.hid hf2
              have hfl := fillB_length s.data.toList k
              rw [hN] at hfl
              clear hf2
              generalize (esc (s.data.toList.take k)).length = jj at *
              have HF1 := Lib.hid hf1
              have HFL := Lib.hid hfl
              have HN := Lib.hid hN
              have hsl := slice_tail bb N jj (by omega)
              have HJ := Lib.hid hle2
              have hjb : (jj : Int) ≤ 3000000 := by omega
              clear hf1 hfl hN hle hle2 hkl
              have hcp : ∀ g : Gr wr, _ := fun g => copy_two g.world b1 bb jj (N - jj) k1 92 92 _ (h1k.gr g) (hrow.gr g) (by rw [HFL.out]; have := HJ.out; omega) (by have := HJ.out; omega)
              go_wp2
              refine wp_region_gr_free 0 13 [10, 11, 12] (by kernel_rfl) (by kernel_rfl) ?_
              simp only [List.take_succ_cons, List.take_zero]
              repeat (go_big_quiet_step (first | fail))
              refine wpQuiet_nil ?_
              intro g
              have hgl := g.le
              refine wpAnyC_pureL 0 (by kernel_rfl) ?_
              simp only [List.drop_succ_cons, List.drop_zero, List.take_succ_cons, List.take_zero]
              go_big_quiet_step (first | fail)
              refine wpQuiet_nil ?_
              refine wpAnyC_pureL 1 (by kernel_rfl) ?_
              simp only [List.drop_succ_cons, List.drop_zero, List.take_succ_cons, List.take_zero]
              go_big_quiet_step (first | fail)
              refine wpQuiet_nil ?_
              refine wpAnyC_pureL 2 (by kernel_rfl) ?_
              simp only [List.drop_succ_cons, List.drop_zero, List.take_succ_cons, List.take_zero]
              go_big_quiet_step (first | fail)
              refine wpQuiet_nil ?_
              refine wpAnyC_pureL 3 (by kernel_rfl) ?_
              simp only [List.drop_succ_cons, List.drop_zero, List.take_succ_cons, List.take_zero]
              go_big_quiet_step (first | fail)
              refine wpQuiet_nil ?_
              refine wpAnyC_pureL 4 (by kernel_rfl) ?_
              simp only [List.drop_succ_cons, List.drop_zero, List.take_succ_cons, List.take_zero]
              go_big_quiet_step (first | fail)
              refine wpQuiet_nil ?_
              refine wpAnyC_pureL 5 (by kernel_rfl) ?_
              simp only [List.drop_succ_cons, List.drop_zero, List.take_succ_cons, List.take_zero]
              go_big_quiet_step (first | fail)
              refine wpQuiet_nil ?_
              refine wpAnyC_pureL 6 (by kernel_rfl) ?_
              simp only [List.drop_succ_cons, List.drop_zero, List.take_succ_cons, List.take_zero]
              go_big_quiet_step (first | fail)
              refine wpQuiet_nil ?_
              refine wpAnyC_pureL 7 (by kernel_rfl) ?_
              simp only [List.drop_succ_cons, List.drop_zero, List.take_succ_cons, List.take_zero]
              go_big_quiet_step (first | fail)
              refine wpQuiet_nil ?_
              refine wpAnyC_pureL 8 (by kernel_rfl) ?_
              simp only [List.drop_succ_cons, List.drop_zero, List.take_succ_cons, List.take_zero]
              go_big_quiet_step (first | fail)
              refine wpQuiet_nil ?_
              refine wpAnyC_one 9 rfl rfl (by kernel_rfl) (fun K hK => ?_)
              go_wp2
              refine hK _ _ (.inr ⟨g, rfl⟩) ?_
              refine wpAnyC_one 10 rfl rfl (by kernel_rfl) (fun K hK => ?_)
              go_wp2
              refine hK _ _ (.inl rfl) ?_
              refine wpAnyC_one 11 rfl rfl (by kernel_rfl) (fun K hK => ?_)
              go_wp2
              refine hK _ _ (.inl rfl) ?_
              refine wpAnyC_one 12 rfl rfl (by kernel_rfl) (fun K hK => ?_)
              go_wp2
              refine hK _ _ (.inl rfl) ?_
              refine wpAnyC_end (by kernel_rfl) ?_
              go_wp2
              have hrow2 := ((hrow.gr g).set jj (.int .u8 92)).set (jj + 1) (.int .u8 92)
              go_roundw
              case rel => exact ⟨k + 1, by omega, by go_num, by rw [HF.out]; go_num, by rw [← HF1.out, byteCells_set, byteCells_set]; exact hrow2, ((hB.trans (g.below.mono hB.size)).setCell (by show _ ≤ bb; omega) _).setCell (by show _ ≤ bb; omega) _⟩
              case measure => simp [intOf]; omega
            · by_cases hb2 : s[k] = 44
              · obtain ⟨hf1, hf2⟩ := fillB_esc s.data.toList k hkl 44 hb2 (.inr rfl)
                have hle2 := esc_take_le s.data.toList (k + 1)
                have hix' : ∀ w, Sem.run Tryz.prog (Instr.index 9 (.string s) (.int .i64 k)) w = .ok (.int .u8 44) w := fun w => by have := hix w; rw [hb2] at this; exact this
                have rck : wr.cell? ⟨q, 44, none⟩ = some (.slice (some ⟨b2, 0, none⟩) 2 k2) := (hRk.cell 44 (by omega)).1
                clear hix hb hb2 hsk
                rw [hN] at hle hle2
                rw [hf2] at hle2
                have HF := Lib.hid hf2
                have hfl := fillB_length s.data.toList k
                rw [hN] at hfl
                clear hf2
                generalize (esc (s.data.toList.take k)).length = jj at *
                have HF1 := Lib.hid hf1
                have HFL := Lib.hid hfl
                have HN := Lib.hid hN
                have hsl := slice_tail bb N jj (by omega)
                have HJ := Lib.hid hle2
                have hjb : (jj : Int) ≤ 3000000 := by omega
                clear hf1 hfl hN hle hle2 hkl
                have hcp : ∀ g : Gr wr, _ := fun g => copy_two g.world b2 bb jj (N - jj) k2 92 44 _ (h2k.gr g) (hrow.gr g) (by rw [HFL.out]; have := HJ.out; omega) (by have := HJ.out; omega)
                go_wp2
                refine wp_region_gr_free 0 13 [10, 11, 12] (by kernel_rfl) (by kernel_rfl) ?_
                simp only [List.take_succ_cons, List.take_zero]
                repeat (go_big_quiet_step (first | fail))
                refine wpQuiet_nil ?_
                intro g
                have hgl := g.le
                refine wpAnyC_pureL 0 (by kernel_rfl) ?_
                simp only [List.drop_succ_cons, List.drop_zero, List.take_succ_cons, List.take_zero]
                go_big_quiet_step (first | fail)
                refine wpQuiet_nil ?_
                refine wpAnyC_pureL 1 (by kernel_rfl) ?_
                simp only [List.drop_succ_cons, List.drop_zero, List.take_succ_cons, List.take_zero]
                go_big_quiet_step (first | fail)
                refine wpQuiet_nil ?_
                refine wpAnyC_pureL 2 (by kernel_rfl) ?_
                simp only [List.drop_succ_cons, List.drop_zero, List.take_succ_cons, List.take_zero]
                go_big_quiet_step (first | fail)
                refine wpQuiet_nil ?_
                refine wpAnyC_pureL 3 (by kernel_rfl) ?_
                simp only [List.drop_succ_cons, List.drop_zero, List.take_succ_cons, List.take_zero]
                go_big_quiet_step (first | fail)
                refine wpQuiet_nil ?_
                refine wpAnyC_pureL 4 (by kernel_rfl) ?_
                simp only [List.drop_succ_cons, List.drop_zero, List.take_succ_cons, List.take_zero]
                go_big_quiet_step (first | fail)
                refine wpQuiet_nil ?_
                refine wpAnyC_pureL 5 (by kernel_rfl) ?_
                simp only [List.drop_succ_cons, List.drop_zero, List.take_succ_cons, List.take_zero]
                go_big_quiet_step (first | fail)
                refine wpQuiet_nil ?_
                refine wpAnyC_pureL 6 (by kernel_rfl) ?_
                simp only [List.drop_succ_cons, List.drop_zero, List.take_succ_cons, List.take_zero]
                go_big_quiet_step (first | fail)
                refine wpQuiet_nil ?_
                refine wpAnyC_pureL 7 (by kernel_rfl) ?_
                simp only [List.drop_succ_cons, List.drop_zero, List.take_succ_cons, List.take_zero]
                go_big_quiet_step (first | fail)
                refine wpQuiet_nil ?_
                refine wpAnyC_pureL 8 (by kernel_rfl) ?_
                simp only [List.drop_succ_cons, List.drop_zero, List.take_succ_cons, List.take_zero]
                go_big_quiet_step (first | fail)
                refine wpQuiet_nil ?_
                refine wpAnyC_one 9 rfl rfl (by kernel_rfl) (fun K hK => ?_)
                go_wp2
                refine hK _ _ (.inr ⟨g, rfl⟩) ?_
                refine wpAnyC_one 10 rfl rfl (by kernel_rfl) (fun K hK => ?_)
                go_wp2
                refine hK _ _ (.inl rfl) ?_
                refine wpAnyC_one 11 rfl rfl (by kernel_rfl) (fun K hK => ?_)
                go_wp2
                refine hK _ _ (.inl rfl) ?_
                refine wpAnyC_one 12 rfl rfl (by kernel_rfl) (fun K hK => ?_)
                go_wp2
                refine hK _ _ (.inl rfl) ?_
                refine wpAnyC_end (by kernel_rfl) ?_
                go_wp2
                have hrow2 := ((hrow.gr g).set jj (.int .u8 92)).set (jj + 1) (.int .u8 44)
                go_roundw
                case rel => exact ⟨k + 1, by omega, by go_num, by rw [HF.out]; go_num, by rw [← HF1.out, byteCells_set, byteCells_set]; exact hrow2, ((hB.trans (g.below.mono hB.size)).setCell (by show _ ≤ bb; omega) _).setCell (by show _ ≤ bb; omega) _⟩
                case measure => simp [intOf]; omega
              · obtain ⟨hf1, hf2⟩ := fillB_one s.data.toList k hkl s[k] hsk (by rintro (h | h); exact hb h; exact hb2 h)
                have hle2 := esc_take_le s.data.toList (k + 1)
                have hx := (s[k]).toNat_lt
                have hx1 : (s[k]).toNat ≠ 92 := fun h => hb (UInt8.toNat_inj.1 h)
                have hx2 : (s[k]).toNat ≠ 44 := fun h => hb2 (UInt8.toNat_inj.1 h)
                have rck : wr.cell? ⟨q, (s[k]).toNat, none⟩ = some (.slice none 0 0) := by
                  rw [(hRk.cell (s[k]).toNat (by omega)).1, repCell, if_neg hx1, if_neg hx2, if_neg (by omega)]
                clear hb hb2 hsk hx1 hx2
                generalize s[k] = b at *
                generalize hbn : b.toNat = x at *
                have HBN := Lib.hid hbn
                clear hbn
                have hx0 : (0 : Int) ≤ (x : Int) := by omega
                have hx' : (x : Int) < 256 := by omega
                rw [hN] at hle hle2
                rw [hf2] at hle2
                have HF := Lib.hid hf2
                have hfl := fillB_length s.data.toList k
                rw [hN] at hfl
                clear hf2
                generalize (esc (s.data.toList.take k)).length = jj at *
                have HF1 := Lib.hid hf1
                have hjN : (jj : Int) < (N : Int) := by omega
                have hjb : (jj : Int) ≤ 3000000 := by omega
                obtain ⟨v0, hcb⟩ : ∃ v, wr.cell? ⟨bb, jj, none⟩ = some v := ⟨_, hrow.cell jj (by simp [Lib.byteCells]; omega)⟩
                have hfb := hrow.frozen jj (by simp [Lib.byteCells]; omega)
                clear hf1 hfl hN hle hle2 hkl hx
                go_wp2
                have hrow2 := hrow.set jj (.int .u8 x)
                go_roundw
                case rel => exact ⟨k + 1, by omega, by go_num, by rw [HF.out]; go_num, by rw [← HF1.out, byteCells_set, HBN.out]; exact hrow2, hB.setCell (by show _ ≤ bb; omega) _⟩
                case measure => simp [intOf]; omega
          · obtain rfl : k = s.data.toList.length := by rw [data_length]; omega
            rw [fillB_all] at hrow
            have hstr := hrow.string (P := Tryz.prog) (cap := N) Tryz.underlying66 Tryz.underlying5 Tryz.underlying9
            rw [hN] at hstr
            have hlk' : ¬ ((s.data.toList.length : Nat) : Int) < (s.size : Int) := by rw [data_length]; omega
            clear hN
            obtain ⟨E, hE⟩ : ∃ E, esc s.data.toList = E := ⟨_, rfl⟩
            rw [hE] at hstr
            have HE := Lib.hid hE
            clear hE
            go_wp2
            go_ret
            exact ⟨by rw [HE.out]; rfl, hB⟩
set_option maxRecDepth 100000 in
set_option maxHeartbeats 2000000 in
theorem replace_short (q : Nat) (s : ByteArray) (w : World) (hq : IsRepl w q) (hs : s.size ≤ 1000000) (hl : s.size < 16) :
    Calls Tryz.prog 135 #[.pointer (some ⟨q, 0, none⟩), .string s] w fun e w' => e = .returned (.string ⟨(esc s.data.toList).toArray⟩) ∧ Below w.heap.size w w' := by
  have hq0 := hq
  obtain ⟨b1, b2, tb, k1, k2, hR, h1, h2, h3⟩ := hq
  have rc92 : w.cell? ⟨q, 92, none⟩ = some (.slice (some ⟨b1, 0, none⟩) 2 k1) := (hR.cell 92 (by omega)).1
  have rc44 : w.cell? ⟨q, 44, none⟩ = some (.slice (some ⟨b2, 0, none⟩) 2 k2) := (hR.cell 44 (by omega)).1
  have rc256 : w.cell? ⟨q, 256, none⟩ = some (.slice (some ⟨tb, 0, none⟩) 2 2) := (hR.cell 256 (by omega)).1
  obtain ⟨tc0, tc1, tf0, tf1, tl⟩ := h3.two
  have hl' : ¬ (16 : Int) ≤ (s.size : Int) := by omega
  have hix1 : ∀ (w : World), Sem.run Tryz.prog (Instr.index 9 (.string sE) (.int .i64 0)) w = .ok (.int .u8 92) w := fun w => by kernel_rfl
  have hix2 : ∀ (w : World), Sem.run Tryz.prog (Instr.index 9 (.string sC) (.int .i64 0)) w = .ok (.int .u8 44) w := fun w => by kernel_rfl
  have hn1 := List.count_le_length (a := (92 : UInt8)) (l := s.data.toList)
  have hn2 := List.count_le_length (a := (44 : UInt8)) (l := s.data.toList)
  rw [data_length] at hn1 hn2
  have hsame := esc_same s.data.toList
  have hlen := esc_length s.data.toList
  rw [data_length] at hlen
  have HL := Lib.hid hlen
  have HS := Lib.hid hsame
  clear hlen hsame
  have htake : s.data.toList.take s.size = s.data.toList := List.take_of_length_le (by rw [data_length]; exact Nat.le_refl _)
  have HT := Lib.hid htake
  clear htake
  go_enter Tryz.func135, Tryz.ntmps135
  go_wp2
  go_loopw [5, 6, 10] (fun z any i wr => ∃ k m : Nat, k ≤ s.size ∧ m = (s.data.toList.take k).count 92 + (s.data.toList.take k).count 44 ∧ i = .int .i64 k ∧ z = .int .i64 (s.size + m : Nat) ∧ any = .bool (decide (m ≠ 0)) ∧ Below w.heap.size w wr)
    (fun _ _ i _ => s.size - (intOf i).toNat)
  case atStart => exact ⟨0, 0, by omega, by simp, rfl, rfl, rfl, Below.refl _ _⟩
  case round =>
    obtain ⟨k, m, hk, hm, rfl, rfl, rfl, hB⟩ := hrel
    have rc92' := (hB.cell (p := ⟨q, 92, none⟩) hR.lt).trans rc92
    have rc44' := (hB.cell (p := ⟨q, 44, none⟩) hR.lt).trans rc44
    have hql := Nat.lt_of_lt_of_le hR.lt hB.size
    have hRk0 := hR.into hB
    have hmb0 : m ≤ 2000000 := by
      have i1 := List.count_le_length (a := (92 : UInt8)) (l := s.data.toList.take k)
      have i2 := List.count_le_length (a := (44 : UInt8)) (l := s.data.toList.take k)
      rw [List.length_take, data_length] at i1 i2
      omega
    by_cases hlk0 : k < s.size
    · have hix := index_at (P := Tryz.prog) 9 s .i64 (k : Int) k Tryz.underlying9 rfl hlk0
      have hkl : k < s.data.toList.length := by rw [data_length]; exact hlk0
      have hsk : s.data.toList[k] = s[k] := rfl
      have qN : ∀ (w : World) (a : Option Addr) (n c n' c' : Nat), (binOp .neq 66 (.slice a n c) (.slice none n' c')).run Tryz.prog w = .ok (.bool (!a.isNone)) w := fun w a n c n' c' => run_neq_slice_nil_any w _ _ a n c n' c' Tryz.underlying66
      have hcs : (s.data.toList.take (k + 1)).count 92 + (s.data.toList.take (k + 1)).count 44 = m + (if s[k] = 92 then 1 else if s[k] = 44 then 1 else 0) := by
        rw [List.take_succ_eq_append_getElem hkl, List.count_append, List.count_append, hm, hsk]
        by_cases h92 : s[k] = 92
        · rw [if_pos h92, h92]; simp; omega
        · by_cases h44 : s[k] = 44
          · rw [if_neg h92, if_pos h44, h44]; simp; omega
          · rw [if_neg h92, if_neg h44]; simp [List.count_singleton, h92, h44]
      have HC := Lib.hid hcs
      have HM := Lib.hid hm
      clear hcs hm
      by_cases hb : s[k] = 92
      · have hix' : ∀ w, Sem.run Tryz.prog (Instr.index 9 (.string s) (.int .i64 k)) w = .ok (.int .u8 92) w := fun w => by have := hix w; rw [hb] at this; exact this
        have hcs := HC.out
        rw [if_pos hb] at hcs
        have HC := Lib.hid hcs
        clear hcs hix hsk hb
        go_wp2
        go_roundw
        case rel => exact ⟨k + 1, m + 1, by omega, HC.out.symm, by go_num, by go_num, by simp, hB⟩
        case measure => simp [intOf]; omega
      · by_cases hb2 : s[k] = 44
        · have hix' : ∀ w, Sem.run Tryz.prog (Instr.index 9 (.string s) (.int .i64 k)) w = .ok (.int .u8 44) w := fun w => by have := hix w; rw [hb2] at this; exact this
          have hcs := HC.out
          rw [if_neg hb, if_pos hb2] at hcs
          have HC := Lib.hid hcs
          clear hcs hix hsk hb hb2
          go_wp2
          go_roundw
          case rel => exact ⟨k + 1, m + 1, by omega, HC.out.symm, by go_num, by go_num, by simp, hB⟩
          case measure => simp [intOf]; omega
        · have hx := (s[k]).toNat_lt
          have hx1 : (s[k]).toNat ≠ 92 := fun h => hb (UInt8.toNat_inj.1 h)
          have hx2 : (s[k]).toNat ≠ 44 := fun h => hb2 (UInt8.toNat_inj.1 h)
          have rck : wr.cell? ⟨q, (s[k]).toNat, none⟩ = some (.slice none 0 0) := by
            rw [(hRk0.cell (s[k]).toNat (by omega)).1, repCell, if_neg hx1, if_neg hx2, if_neg (by omega)]
          have hcs := HC.out
          rw [if_neg hb, if_neg hb2, Nat.add_zero] at hcs
          have HC3 := Lib.hid hcs
          clear hcs hb hb2 hsk hx1 hx2
          generalize s[k] = b at *
          generalize b.toNat = x at *
          have hx0 : (0 : Int) ≤ (x : Int) := by omega
          have hx' : (x : Int) < 256 := by omega
          clear hx
          go_wp2
          go_roundw
          case rel => exact ⟨k + 1, m, by omega, HC3.out.symm, by go_num, rfl, rfl, hB⟩
          case measure => simp [intOf]; omega
    · obtain rfl : k = s.size := by omega
      rw [HT.out] at hm
      have hsame := HS.out
      clear hRk0
      have HM := Lib.hid hm
      clear hm
      have hlk0' : ¬ ((s.size : Nat) : Int) < (s.size : Int) := by omega
      clear rc92' rc44' hix1 hix2 rc92 rc44 rc256 tc0 tc1 tf0 tf1
      generalize s.data.toList.count 92 = n1 at *
      generalize s.data.toList.count 44 = n2 at *
      by_cases h0 : m = 0
      · subst h0
        have he : esc s.data.toList = s.data.toList := hsame (by have := HM.out; omega)
        have HE := Lib.hid he
        clear he hsame
        go_wp2
        go_ret
        exact ⟨by rw [HE.out]; rfl, hB⟩
      · have hd : decide (m ≠ 0) = true := by simp [h0]
        rw [hd]
        have hN : (esc s.data.toList).length = s.size + m := by rw [HL.out, HM.out]
        have hmb : m ≤ 2000000 := by have := HM.out; omega
        have HLM : Hid (s.size + (n1 + n2) = s.size + m) := Lib.hid (by rw [HM.out])
        clear HM
        generalize s.size + m = N at *
        try rw [show ((2 : Nat) : Int) = 2 from rfl]
        have hNb : N ≤ 3000000 := by have := esc_le s.data.toList; rw [data_length] at this; omega
        have hmk := make_zero N (by omega)
        clear hmb
        clear hsame hn1 hn2
        go_wp2
        refine wp_named (fun W hW => ?_)
        have hbb : RowAt W wr.heap.size 5 (Lib.byteCells (List.replicate N 0)) := by rw [hW, byteCells_zero]; exact RowAt.of_new _ _ _
        have hBW : Below w.heap.size w W := by rw [hW]; exact hB.alloc hB.size _
        have hbl := hB.size
        generalize wr.heap.size = bb at *
        clear hW hmk hB
        skip
        go_loopw [13, 14] (fun j i wr => ∃ k : Nat, k ≤ s.size ∧ i = .int .i64 k ∧ j = .int .i64 (esc (s.data.toList.take k)).length ∧ RowAt wr bb 5 (Lib.byteCells (fillB s.data.toList k)) ∧ Below w.heap.size w wr)
          (fun _ i _ => s.size - (intOf i).toNat)
        case atStart => exact ⟨0, by omega, rfl, rfl, by rw [fillB_zero s.data.toList, hN]; exact hbb, hBW⟩
        case round =>
          obtain ⟨k, hk, rfl, rfl, hrow, hB⟩ := hrel
          by_cases hlk : k < s.size
          · have hrl := hrow.lt
            have hRk := hR.into hB
            have h1k := h1.into hB
            have h2k := h2.into hB
            have hix := index_at (P := Tryz.prog) 9 s .i64 (k : Int) k Tryz.underlying9 rfl hlk
            have hkl : k < s.data.toList.length := by rw [data_length]; exact hlk
            have hsk : s.data.toList[k] = s[k] := rfl
            have qN : ∀ (w : World) (a : Option Addr) (n c n' c' : Nat), (binOp .neq 66 (.slice a n c) (.slice none n' c')).run Tryz.prog w = .ok (.bool (!a.isNone)) w := fun w a n c n' c' => run_neq_slice_nil_any w _ _ a n c n' c' Tryz.underlying66
            have hqk := hRk.lt
            have hle := esc_take_le s.data.toList k
            by_cases hb : s[k] = 92
            · obtain ⟨hf1, hf2⟩ := fillB_esc s.data.toList k hkl 92 hb (.inl rfl)
              have hle2 := esc_take_le s.data.toList (k + 1)
              have hix' : ∀ w, Sem.run Tryz.prog (Instr.index 9 (.string s) (.int .i64 k)) w = .ok (.int .u8 92) w := fun w => by have := hix w; rw [hb] at this; exact this
              have rck : wr.cell? ⟨q, 92, none⟩ = some (.slice (some ⟨b1, 0, none⟩) 2 k1) := (hRk.cell 92 (by omega)).1
              clear hix hb hsk
              rw [hN] at hle hle2
              rw [hf2] at hle2
              have HF := Lib.hid hf2
              have hfl := fillB_length s.data.toList k
              rw [hN] at hfl
              clear hf2
              generalize (esc (s.data.toList.take k)).length = jj at *
              have HF1 := Lib.hid hf1
              have HFL := Lib.hid hfl
              have HN := Lib.hid hN
              have hsl := slice_tail bb N jj (by omega)
              have HJ := Lib.hid hle2
              have hjb : (jj : Int) ≤ 3000000 := by omega
              clear hf1 hfl hN hle hle2 hkl
              have hcp : ∀ g : Gr wr, _ := fun g => copy_two g.world b1 bb jj (N - jj) k1 92 92 _ (h1k.gr g) (hrow.gr g) (by rw [HFL.out]; have := HJ.out; omega) (by have := HJ.out; omega)
              go_wp2
              refine wp_region_gr_free 0 13 [10, 11, 12] (by kernel_rfl) (by kernel_rfl) ?_
              simp only [List.take_succ_cons, List.take_zero]
              repeat (go_big_quiet_step (first | fail))
              refine wpQuiet_nil ?_
              intro g
              have hgl := g.le
              refine wpAnyC_pureL 0 (by kernel_rfl) ?_
              simp only [List.drop_succ_cons, List.drop_zero, List.take_succ_cons, List.take_zero]
              go_big_quiet_step (first | fail)
              refine wpQuiet_nil ?_
              refine wpAnyC_pureL 1 (by kernel_rfl) ?_
              simp only [List.drop_succ_cons, List.drop_zero, List.take_succ_cons, List.take_zero]
              go_big_quiet_step (first | fail)
              refine wpQuiet_nil ?_
              refine wpAnyC_pureL 2 (by kernel_rfl) ?_
              simp only [List.drop_succ_cons, List.drop_zero, List.take_succ_cons, List.take_zero]
              go_big_quiet_step (first | fail)
              refine wpQuiet_nil ?_
              refine wpAnyC_pureL 3 (by kernel_rfl) ?_
              simp only [List.drop_succ_cons, List.drop_zero, List.take_succ_cons, List.take_zero]
              go_big_quiet_step (first | fail)
              refine wpQuiet_nil ?_
              refine wpAnyC_pureL 4 (by kernel_rfl) ?_
              simp only [List.drop_succ_cons, List.drop_zero, List.take_succ_cons, List.take_zero]
              go_big_quiet_step (first | fail)
              refine wpQuiet_nil ?_
              refine wpAnyC_pureL 5 (by kernel_rfl) ?_
              simp only [List.drop_succ_cons, List.drop_zero, List.take_succ_cons, List.take_zero]
              go_big_quiet_step (first | fail)
              refine wpQuiet_nil ?_
              refine wpAnyC_pureL 6 (by kernel_rfl) ?_
              simp only [List.drop_succ_cons, List.drop_zero, List.take_succ_cons, List.take_zero]
              go_big_quiet_step (first | fail)
              refine wpQuiet_nil ?_
              refine wpAnyC_pureL 7 (by kernel_rfl) ?_
              simp only [List.drop_succ_cons, List.drop_zero, List.take_succ_cons, List.take_zero]
              go_big_quiet_step (first | fail)
              refine wpQuiet_nil ?_
              refine wpAnyC_pureL 8 (by kernel_rfl) ?_
              simp only [List.drop_succ_cons, List.drop_zero, List.take_succ_cons, List.take_zero]
              go_big_quiet_step (first | fail)
              refine wpQuiet_nil ?_
              refine wpAnyC_one 9 rfl rfl (by kernel_rfl) (fun K hK => ?_)
              go_wp2
              refine hK _ _ (.inr ⟨g, rfl⟩) ?_
              refine wpAnyC_one 10 rfl rfl (by kernel_rfl) (fun K hK => ?_)
              go_wp2
              refine hK _ _ (.inl rfl) ?_
              refine wpAnyC_one 11 rfl rfl (by kernel_rfl) (fun K hK => ?_)
              go_wp2
              refine hK _ _ (.inl rfl) ?_
              refine wpAnyC_one 12 rfl rfl (by kernel_rfl) (fun K hK => ?_)
              go_wp2
              refine hK _ _ (.inl rfl) ?_
              refine wpAnyC_end (by kernel_rfl) ?_
              go_wp2
              have hrow2 := ((hrow.gr g).set jj (.int .u8 92)).set (jj + 1) (.int .u8 92)
              go_roundw
              case rel => exact ⟨k + 1, by omega, by go_num, by rw [HF.out]; go_num, by rw [← HF1.out, byteCells_set, byteCells_set]; exact hrow2, ((hB.trans (g.below.mono hB.size)).setCell (by show _ ≤ bb; omega) _).setCell (by show _ ≤ bb; omega) _⟩
              case measure => simp [intOf]; omega
            · by_cases hb2 : s[k] = 44
              · obtain ⟨hf1, hf2⟩ := fillB_esc s.data.toList k hkl 44 hb2 (.inr rfl)
                have hle2 := esc_take_le s.data.toList (k + 1)
                have hix' : ∀ w, Sem.run Tryz.prog (Instr.index 9 (.string s) (.int .i64 k)) w = .ok (.int .u8 44) w := fun w => by have := hix w; rw [hb2] at this; exact this
                have rck : wr.cell? ⟨q, 44, none⟩ = some (.slice (some ⟨b2, 0, none⟩) 2 k2) := (hRk.cell 44 (by omega)).1
                clear hix hb hb2 hsk
                rw [hN] at hle hle2
                rw [hf2] at hle2
                have HF := Lib.hid hf2
                have hfl := fillB_length s.data.toList k
                rw [hN] at hfl
                clear hf2
                generalize (esc (s.data.toList.take k)).length = jj at *
                have HF1 := Lib.hid hf1
                have HFL := Lib.hid hfl
                have HN := Lib.hid hN
                have hsl := slice_tail bb N jj (by omega)
                have HJ := Lib.hid hle2
                have hjb : (jj : Int) ≤ 3000000 := by omega
                clear hf1 hfl hN hle hle2 hkl
                have hcp : ∀ g : Gr wr, _ := fun g => copy_two g.world b2 bb jj (N - jj) k2 92 44 _ (h2k.gr g) (hrow.gr g) (by rw [HFL.out]; have := HJ.out; omega) (by have := HJ.out; omega)
                go_wp2
                refine wp_region_gr_free 0 13 [10, 11, 12] (by kernel_rfl) (by kernel_rfl) ?_
                simp only [List.take_succ_cons, List.take_zero]
                repeat (go_big_quiet_step (first | fail))
                refine wpQuiet_nil ?_
                intro g
                have hgl := g.le
                refine wpAnyC_pureL 0 (by kernel_rfl) ?_
                simp only [List.drop_succ_cons, List.drop_zero, List.take_succ_cons, List.take_zero]
                go_big_quiet_step (first | fail)
                refine wpQuiet_nil ?_
                refine wpAnyC_pureL 1 (by kernel_rfl) ?_
                simp only [List.drop_succ_cons, List.drop_zero, List.take_succ_cons, List.take_zero]
                go_big_quiet_step (first | fail)
                refine wpQuiet_nil ?_
                refine wpAnyC_pureL 2 (by kernel_rfl) ?_
                simp only [List.drop_succ_cons, List.drop_zero, List.take_succ_cons, List.take_zero]
                go_big_quiet_step (first | fail)
                refine wpQuiet_nil ?_
                refine wpAnyC_pureL 3 (by kernel_rfl) ?_
                simp only [List.drop_succ_cons, List.drop_zero, List.take_succ_cons, List.take_zero]
                go_big_quiet_step (first | fail)
                refine wpQuiet_nil ?_
                refine wpAnyC_pureL 4 (by kernel_rfl) ?_
                simp only [List.drop_succ_cons, List.drop_zero, List.take_succ_cons, List.take_zero]
                go_big_quiet_step (first | fail)
                refine wpQuiet_nil ?_
                refine wpAnyC_pureL 5 (by kernel_rfl) ?_
                simp only [List.drop_succ_cons, List.drop_zero, List.take_succ_cons, List.take_zero]
                go_big_quiet_step (first | fail)
                refine wpQuiet_nil ?_
                refine wpAnyC_pureL 6 (by kernel_rfl) ?_
                simp only [List.drop_succ_cons, List.drop_zero, List.take_succ_cons, List.take_zero]
                go_big_quiet_step (first | fail)
                refine wpQuiet_nil ?_
                refine wpAnyC_pureL 7 (by kernel_rfl) ?_
                simp only [List.drop_succ_cons, List.drop_zero, List.take_succ_cons, List.take_zero]
                go_big_quiet_step (first | fail)
                refine wpQuiet_nil ?_
                refine wpAnyC_pureL 8 (by kernel_rfl) ?_
                simp only [List.drop_succ_cons, List.drop_zero, List.take_succ_cons, List.take_zero]
                go_big_quiet_step (first | fail)
                refine wpQuiet_nil ?_
                refine wpAnyC_one 9 rfl rfl (by kernel_rfl) (fun K hK => ?_)
                go_wp2
                refine hK _ _ (.inr ⟨g, rfl⟩) ?_
                refine wpAnyC_one 10 rfl rfl (by kernel_rfl) (fun K hK => ?_)
                go_wp2
                refine hK _ _ (.inl rfl) ?_
                refine wpAnyC_one 11 rfl rfl (by kernel_rfl) (fun K hK => ?_)
                go_wp2
                refine hK _ _ (.inl rfl) ?_
                refine wpAnyC_one 12 rfl rfl (by kernel_rfl) (fun K hK => ?_)
                go_wp2
                refine hK _ _ (.inl rfl) ?_
                refine wpAnyC_end (by kernel_rfl) ?_
                go_wp2
                have hrow2 := ((hrow.gr g).set jj (.int .u8 92)).set (jj + 1) (.int .u8 44)
                go_roundw
                case rel => exact ⟨k + 1, by omega, by go_num, by rw [HF.out]; go_num, by rw [← HF1.out, byteCells_set, byteCells_set]; exact hrow2, ((hB.trans (g.below.mono hB.size)).setCell (by show _ ≤ bb; omega) _).setCell (by show _ ≤ bb; omega) _⟩
                case measure => simp [intOf]; omega
              · obtain ⟨hf1, hf2⟩ := fillB_one s.data.toList k hkl s[k] hsk (by rintro (h | h); exact hb h; exact hb2 h)
                have hle2 := esc_take_le s.data.toList (k + 1)
                have hx := (s[k]).toNat_lt
                have hx1 : (s[k]).toNat ≠ 92 := fun h => hb (UInt8.toNat_inj.1 h)
                have hx2 : (s[k]).toNat ≠ 44 := fun h => hb2 (UInt8.toNat_inj.1 h)
                have rck : wr.cell? ⟨q, (s[k]).toNat, none⟩ = some (.slice none 0 0) := by
                  rw [(hRk.cell (s[k]).toNat (by omega)).1, repCell, if_neg hx1, if_neg hx2, if_neg (by omega)]
                clear hb hb2 hsk hx1 hx2
                generalize s[k] = b at *
                generalize hbn : b.toNat = x at *
                have HBN := Lib.hid hbn
                clear hbn
                have hx0 : (0 : Int) ≤ (x : Int) := by omega
                have hx' : (x : Int) < 256 := by omega
                rw [hN] at hle hle2
                rw [hf2] at hle2
                have HF := Lib.hid hf2
                have hfl := fillB_length s.data.toList k
                rw [hN] at hfl
                clear hf2
                generalize (esc (s.data.toList.take k)).length = jj at *
                have HF1 := Lib.hid hf1
                have hjN : (jj : Int) < (N : Int) := by omega
                have hjb : (jj : Int) ≤ 3000000 := by omega
                obtain ⟨v0, hcb⟩ : ∃ v, wr.cell? ⟨bb, jj, none⟩ = some v := ⟨_, hrow.cell jj (by simp [Lib.byteCells]; omega)⟩
                have hfb := hrow.frozen jj (by simp [Lib.byteCells]; omega)
                clear hf1 hfl hN hle hle2 hkl hx
                go_wp2
                have hrow2 := hrow.set jj (.int .u8 x)
                go_roundw
                case rel => exact ⟨k + 1, by omega, by go_num, by rw [HF.out]; go_num, by rw [← HF1.out, byteCells_set, HBN.out]; exact hrow2, hB.setCell (by show _ ≤ bb; omega) _⟩
                case measure => simp [intOf]; omega
          · obtain rfl : k = s.data.toList.length := by rw [data_length]; omega
            rw [fillB_all] at hrow
            have hstr := hrow.string (P := Tryz.prog) (cap := N) Tryz.underlying66 Tryz.underlying5 Tryz.underlying9
            rw [hN] at hstr
            have hlk' : ¬ ((s.data.toList.length : Nat) : Int) < (s.size : Int) := by rw [data_length]; omega
            clear hN
            obtain ⟨E, hE⟩ : ∃ E, esc s.data.toList = E := ⟨_, rfl⟩
            rw [hE] at hstr
            have HE := Lib.hid hE
            clear hE
            go_wp2
            go_ret
            exact ⟨by rw [HE.out]; rfl, hB⟩

/-- A replacer that is built: a backslash ahead of each comma and backslash. -/
theorem replaced_any (q : Nat) (s : ByteArray) (w : World) (hq : IsRepl w q) (hs : s.size ≤ 1000000) :
    Calls Tryz.prog 135 #[.pointer (some ⟨q, 0, none⟩), .string s] w fun e w' => e = .returned (.string ⟨(esc s.data.toList).toArray⟩) ∧ Below w.heap.size w w' := by
  by_cases h : 16 ≤ s.size
  · exact replace_long q s w hq hs h
  · exact replace_short q s w hq hs (by omega)
end Go.Proofs.YtjhdgpboofcelaaGreat
