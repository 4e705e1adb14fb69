/- strings.Replacer: what is built of a comma and a backslash. -/
import Derived.Test.YtjhdgpboofcelaaGreatC6
import Derived.Deep.WholeRow
namespace Go.Proofs.YtjhdgpboofcelaaGreat
open Go.RowKit

abbrev sC : ByteArray := ⟨#[44]⟩
abbrev sEC : ByteArray := ⟨#[92, 44]⟩
abbrev sE : ByteArray := ⟨#[92]⟩
abbrev sEE : ByteArray := ⟨#[92, 92]⟩
theorem make_two (w : World) : Sem.run Tryz.prog (Instr.makeSlice 57 (.int .i64 0) (.int .i64 2)) w = .ok (.slice (some ⟨w.heap.size, 0, none⟩) 0 2) (w.alloc (.cells #[.string ⟨#[]⟩, .string ⟨#[]⟩] 9)) := by
  have hi : (Tryz.prog.info? 9).map (fun i => (i.zero, i.size, i.bytes)) = some (some (.string ⟨#[]⟩), 1, 16) := by kernel_rfl
  obtain ⟨i0, hi, hz0, hz1, hz2⟩ := info_parts hi
  have h := run_makeSlice (P := Tryz.prog) w 57 9 i0 (.string ⟨#[]⟩) Tryz.underlying57 hi hz0 .i64 .i64 0 2 (by omega) (by omega) (by rw [hz1]; decide) (by rw [hz2]; decide) (by omega)
  have e : madeCells (Value.string ⟨#[]⟩).cells (Int.toNat 2 * 1) = #[.string ⟨#[]⟩, .string ⟨#[]⟩] := by kernel_rfl
  rw [h, hz1, e]
  rfl
theorem zero_size : Tryz.zeroCells126.size = 257 := by kernel_rfl
theorem zero_one : Tryz.zeroCells126.all (·.oneCell') = true := by kernel_rfl
theorem store_new (w : World) (v : Value) (hv : v.oneCell' = true) : Sem.run Tryz.prog (storeCells ⟨w.heap.size, 0, none⟩ (Tryz.zeroCells126.toList.set 256 v)) (w.alloc (.cells Tryz.zeroCells126 126)) =
    .ok () (w.alloc (.cells (Tryz.zeroCells126.setIfInBounds 256 v) 126)) := by
  have hsz : (Tryz.prog.info? 126).map (·.size) = some 257 := by kernel_rfl
  have h := run_storeCells_new (P := Tryz.prog) w 126 Tryz.zeroCells126 (Tryz.zeroCells126.setIfInBounds 256 v) (by rw [hsz, Array.size_setIfInBounds, zero_size]) (by simp) (by
    rw [Array.all_eq_true_iff_forall_mem]
    intro x hx
    rcases Array.mem_or_eq_of_mem_setIfInBounds hx with h | rfl
    · exact Array.all_eq_true_iff_forall_mem.1 zero_one x h
    · exact hv)
  rwa [Array.toList_setIfInBounds] at h
def isNilS : Option Value → Bool
  | some (.slice none 0 0) => true
  | _ => false
theorem isNilS_eq {v : Option Value} (h : isNilS v = true) : v = some (.slice none 0 0) := by
  unfold isNilS at h
  split at h
  · rfl
  · cases h
theorem zero_at (i : Nat) (hi : i < 256) : Tryz.zeroCells126[i]? = some (.slice none 0 0) := by
  have h : (List.range 256).all (fun i => isNilS (Tryz.zeroCells126[i]?)) = true := by kernel_rfl
  exact isNilS_eq (List.all_eq_true.1 h i (List.mem_range.2 hi))
/-- What stands in a replacer's cells: what is put for a backslash, for a comma, which bytes there are. -/
def repCell (e c t : Value) (i : Nat) : Value := if i = 92 then e else if i = 44 then c else if i = 256 then t else .slice none 0 0
def ReplAt (w : World) (q : Nat) (e c t : Value) : Prop := ∃ C : Array Value, w.heap[q]? = some (.cells C 126 (0, 0)) ∧ C.size = 257 ∧ ∀ i, i < 257 → C[i]? = some (repCell e c t i)
theorem ReplAt.lt {w : World} {q : Nat} {e c t : Value} (h : ReplAt w q e c t) : q < w.heap.size := by
  obtain ⟨C, h1, _⟩ := h
  exact (Array.getElem?_eq_some_iff.1 h1).1
theorem ReplAt.cell {w : World} {q : Nat} {e c t : Value} (h : ReplAt w q e c t) (i : Nat) (hi : i < 257) : w.cell? ⟨q, i, none⟩ = some (repCell e c t i) ∧ w.frozen? ⟨q, i, none⟩ = false := by
  obtain ⟨C, h1, h2, h3⟩ := h
  refine ⟨?_, ?_⟩
  · simp only [World.cell?, h1]
    simpa using h3 i hi
  · simp only [World.frozen?, h1]
    simp
theorem ReplAt.same {w w' : World} {q : Nat} {e c t : Value} (h : ReplAt w q e c t) (he : w'.heap[q]? = w.heap[q]?) : ReplAt w' q e c t := by
  obtain ⟨C, h1, h2, h3⟩ := h
  exact ⟨C, by rw [he]; exact h1, h2, h3⟩
theorem ReplAt.set {w : World} {q : Nat} {e c t e' c' t' : Value} (h : ReplAt w q e c t) (i : Nat) (v : Value) (hs : ∀ j, j < 257 → (if i = j then v else repCell e c t j) = repCell e' c' t' j) : ReplAt (w.setCell ⟨q, i, none⟩ v) q e' c' t' := by
  obtain ⟨C, h1, h2, h3⟩ := h
  have h5 : (w.setCell ⟨q, i, none⟩ v).heap[q]? = some (.cells (C.setIfInBounds i v) 126 (0, 0)) := by
    simp only [World.setCell, Array.getElem?_modify, if_true, h1]
    rfl
  refine ⟨_, h5, by simpa using h2, fun j hj => ?_⟩
  rw [← hs j hj, Array.getElem?_setIfInBounds]
  by_cases e1 : i = j
  · subst e1
    rw [if_pos rfl, if_pos (by omega), if_pos rfl]
  · rw [if_neg e1, if_neg e1]
    exact h3 j hj
theorem ReplAt.set92 {w : World} {q : Nat} {e c t : Value} (h : ReplAt w q e c t) (v : Value) : ReplAt (w.setCell ⟨q, 92, none⟩ v) q v c t := h.set 92 v fun j _ => by
  unfold repCell
  by_cases e1 : j = 92
  · subst e1; rfl
  · rw [if_neg (Ne.symm e1), if_neg e1, if_neg e1]
theorem ReplAt.set44 {w : World} {q : Nat} {e c t : Value} (h : ReplAt w q e c t) (v : Value) : ReplAt (w.setCell ⟨q, 44, none⟩ v) q e v t := h.set 44 v fun j _ => by
  unfold repCell
  by_cases e1 : j = 44
  · subst e1; rfl
  · rw [if_neg (Ne.symm e1), if_neg e1, if_neg e1]
theorem ReplAt.set256 {w : World} {q : Nat} {e c t : Value} (h : ReplAt w q e c t) (v : Value) : ReplAt (w.setCell ⟨q, 256, none⟩ v) q e c v := h.set 256 v fun j _ => by
  unfold repCell
  by_cases e1 : j = 256
  · subst e1; rfl
  · rw [if_neg (Ne.symm e1), if_neg e1, if_neg e1]
theorem ReplAt.new (w : World) (t : Value) : ReplAt (w.alloc (.cells (Tryz.zeroCells126.setIfInBounds 256 t) 126)) w.heap.size (.slice none 0 0) (.slice none 0 0) t := by
  refine ⟨_, by show (w.heap.push _)[w.heap.size]? = _; simp; rfl, by rw [Array.size_setIfInBounds, zero_size], fun i hi => ?_⟩
  rw [Array.getElem?_setIfInBounds]
  unfold repCell
  by_cases e1 : 256 = i
  · subst e1
    rw [if_pos rfl, if_pos (by rw [zero_size]; omega)]
    rfl
  · rw [if_neg e1, zero_at i (by omega), if_neg (Ne.symm e1)]
    simp
theorem byte_text (w : World) (b : UInt8) : Sem.run Tryz.prog (convert 66 9 (.slice (some ⟨w.heap.size, 0, none⟩) 1 1)) (w.alloc (.cells #[.int .u8 (b.toNat : Nat)] 5)) = .ok (.string ⟨#[b]⟩) (w.alloc (.cells #[.int .u8 (b.toNat : Nat)] 5)) := by
  have h : RowAt (w.alloc (.cells #[.int .u8 (b.toNat : Nat)] 5)) w.heap.size 5 (Lib.byteCells [b]) := RowAt.of_new w #[.int .u8 (b.toNat : Nat)] 5
  exact RowAt.string (cap := 1) (l := [b]) h Tryz.underlying66 Tryz.underlying5 Tryz.underlying9
theorem rounds_named {P : Program} {c : Code} {Q : Exit → Act → World → Prop} {k : Nat} {a : Act} {w : World} (h : ∀ W, W = w → Code.rounds P c Q k a W) : Code.rounds P c Q k a w := h w rfl
theorem RowAt.into {w w' : World} {b : Nat} {T : TypeId} {vs : List Value} (h : RowAt w b T vs) (hb : Below w.heap.size w w') : RowAt w' b T vs := h.below hb h.lt
theorem ReplAt.into {w w' : World} {q : Nat} {e c t : Value} (h : ReplAt w q e c t) (hb : Below w.heap.size w w') : ReplAt w' q e c t := h.same (hb.block q h.lt)
theorem ReplAt.setOther {w : World} {q : Nat} {e c t : Value} (h : ReplAt w q e c t) (p : Addr) (v : Value) (hp : q ≠ p.block) : ReplAt (w.setCell p v) q e c t := h.same (Below.heap_setCell w p v q hp)
theorem ReplAt.alloc {w : World} {q : Nat} {e c t : Value} (h : ReplAt w q e c t) (o : Obj) : ReplAt (w.alloc o) q e c t := h.same (Below.heap_alloc w o q h.lt)
/-- A replacer that is built, in memory. -/
def IsRepl (w : World) (q : Nat) : Prop := ∃ b1 b2 tb k1 k2 : Nat, ReplAt w q (.slice (some ⟨b1, 0, none⟩) 2 k1) (.slice (some ⟨b2, 0, none⟩) 2 k2) (.slice (some ⟨tb, 0, none⟩) 2 2) ∧
  RowAt w b1 5 (Lib.byteCells [92, 92]) ∧ RowAt w b2 5 (Lib.byteCells [92, 44]) ∧ RowAt w tb 9 [.string sE, .string sC]
theorem IsRepl.into {w w' : World} {q : Nat} (h : IsRepl w q) (hb : Below w.heap.size w w') : IsRepl w' q := by
  obtain ⟨b1, b2, tb, k1, k2, h1, h2, h3, h4⟩ := h
  exact ⟨b1, b2, tb, k1, k2, h1.into hb, h2.into hb, h3.into hb, h4.into hb⟩
set_option maxRecDepth 100000 in
set_option maxHeartbeats 2000000 in
theorem build_any (r o c : Nat) (x0 x1 x2 x3 : Value) (w : World)
    (hr : w.cell? ⟨r, 4, none⟩ = some (.slice (some ⟨o, 0, none⟩) 4 c)) (ho : RowAt w o 9 [.string sC, .string sEC, .string sE, .string sEE]) :
    Calls Tryz.prog 74 #[.pointer (some ⟨r, 0, none⟩)] w fun e w' => ∃ q, e = .returned (.iface 127 (.pointer (some ⟨q, 0, none⟩))) ∧ IsRepl w' q ∧ Below w.heap.size w w' := by
  obtain ⟨oc0, oc1, oc2, oc3⟩ : w.cell? ⟨o, 0, none⟩ = some (.string sC) ∧ w.cell? ⟨o, 1, none⟩ = some (.string sEC) ∧ w.cell? ⟨o, 2, none⟩ = some (.string sE) ∧ w.cell? ⟨o, 3, none⟩ = some (.string sEE) := ⟨ho.cell 0 (by simp), ho.cell 1 (by simp), ho.cell 2 (by simp), ho.cell 3 (by simp)⟩
  have hmk := make_two
  have hst := store_new (w.alloc (.cells #[.string ⟨#[]⟩, .string ⟨#[]⟩] 9)) (.slice (some ⟨w.heap.size, 0, none⟩) 0 2) rfl
  rw [World.size_alloc] at hst
  go_enter Tryz.func74, Tryz.ntmps74
  go_wp2
  refine wp_loop_rounds 3 ?_
  rw [rounds_succ]
  go_wp2
  rw [rounds_succ]
  go_wp2
  rw [rounds_succ]
  go_wp2
  refine wp_named (fun W hW => ?_)
  have hBW : Below w.heap.size w W := by rw [hW]; exact (by repeat (first | exact Below.refl _ _ | assumption | (refine Below.setCell ?_ (by (first | omega | (simp; done) | (simp; omega) | (simp at *; omega))) _) | (refine Below.alloc ?_ (by (first | omega | (simp; done) | (simp; omega) | (simp at *; omega))) _) | (refine Below.drew ?_) | (refine Gr.into _ ?_ (by (first | omega | (simp; done) | (simp; omega) | (simp at *; omega))))))
  have hR : ReplAt W (w.heap.size + 1) (.slice none 0 0) (.slice none 0 0) (.slice (some ⟨w.heap.size, 0, none⟩) 0 2) := by rw [hW]; have := ReplAt.new (w.alloc (.cells #[.string ⟨#[]⟩, .string ⟨#[]⟩] 9)) (.slice (some ⟨w.heap.size, 0, none⟩) 0 2); rwa [World.size_alloc] at this
  have t := RowAt.of_new w #[.string ⟨#[]⟩, .string ⟨#[]⟩] 9
  have t2 : RowAt W w.heap.size 9 [.string ⟨#[]⟩, .string ⟨#[]⟩] := by rw [hW]; exact t.alloc _
  have ho2 : RowAt W o 9 [.string sC, .string sEC, .string sE, .string sEE] := ho.below hBW ho.lt
  clear hW hst hmk hr t
  clear oc0 oc1 oc2 oc3
  obtain ⟨oc0, oc1, oc2, oc3⟩ : W.cell? ⟨o, 0, none⟩ = some (.string sC) ∧ W.cell? ⟨o, 1, none⟩ = some (.string sEC) ∧ W.cell? ⟨o, 2, none⟩ = some (.string sE) ∧ W.cell? ⟨o, 3, none⟩ = some (.string sEE) := ⟨ho2.cell 0 (by simp), ho2.cell 1 (by simp), ho2.cell 2 (by simp), ho2.cell 3 (by simp)⟩
  have rc92 : W.cell? ⟨w.heap.size + 1, 92, none⟩ = some (.slice none 0 0) := (hR.cell 92 (by omega)).1
  have rc256 : W.cell? ⟨w.heap.size + 1, 256, none⟩ = some (.slice (some ⟨w.heap.size, 0, none⟩) 0 2) := (hR.cell 256 (by omega)).1
  have rf92 := (hR.cell 92 (by omega)).2
  have rf256 := (hR.cell 256 (by omega)).2
  have hix1 : ∀ (w : World), Sem.run Tryz.prog (Instr.index 9 (.string sE) (.int .i64 0)) w = .ok (.int .u8 92) w := fun w => by kernel_rfl
  have hix2 : ∀ (w : World), Sem.run Tryz.prog (Instr.index 9 (.string sC) (.int .i64 0)) w = .ok (.int .u8 44) w := fun w => by kernel_rfl
  have qT : ∀ (w : World) (a : Option Addr) (n c n' c' : Nat), (binOp .eql 66 (.slice a n c) (.slice none n' c')).run Tryz.prog w = .ok (.bool a.isNone) w := fun w a n c n' c' => Lib.run_eql_slice_nil w _ _ a n c n' c' Tryz.underlying66
  have hcv1 : ∀ w : World, Sem.run Tryz.prog (convert 66 9 (.slice (some ⟨w.heap.size, 0, none⟩) 1 1)) (w.alloc (.cells #[.int .u8 92] 5)) = .ok (.string sE) (w.alloc (.cells #[.int .u8 92] 5)) := fun w => byte_text w 92
  have hcv2 : ∀ w : World, Sem.run Tryz.prog (convert 66 9 (.slice (some ⟨w.heap.size, 0, none⟩) 1 1)) (w.alloc (.cells #[.int .u8 44] 5)) = .ok (.string sC) (w.alloc (.cells #[.int .u8 44] 5)) := fun w => byte_text w 44
  obtain ⟨tc0, tc1, tf0, tf1, tl⟩ := t2.two
  have hRl := hR.lt
  have hol := ho2.lt
  have hconv : ∀ (s : ByteArray) (w : World), Sem.run Tryz.prog (convert 9 66 (.string s)) w = .ok (.slice (some ⟨w.heap.size, 0, none⟩) s.size (grownCap w s.size 0 5)) (Lib.bytesWorld w 5 s) := fun s w => Lib.run_convert_string_bytes w _ _ _ s Tryz.underlying9 Tryz.underlying66 Tryz.underlying5
  have hsz := Lib.bytesWorld_size
  have hold : ∀ (w : World) (s : ByteArray) (p : Addr), p.block < w.heap.size → (Lib.bytesWorld w 5 s).cell? p = w.cell? p := fun w s p hp => (Joins.below_bytesWorld w.heap.size w _ s (Nat.le_refl _)).cell hp
  have holf : ∀ (w : World) (s : ByteArray) (p : Addr), p.block < w.heap.size → (Lib.bytesWorld w 5 s).frozen? p = w.frozen? p := fun w s p hp => (Joins.below_bytesWorld w.heap.size w _ s (Nat.le_refl _)).frozen hp
  have hbB : ∀ (w : World) (s : ByteArray), Below w.heap.size w (Lib.bytesWorld w 5 s) := fun w s => Joins.below_bytesWorld w.heap.size w _ s (Nat.le_refl _)
  have hWs := hBW.size
  refine wp_loop_rounds 3 ?_
  rw [rounds_succ]
  go_wp2
  refine rounds_named (fun V hV => ?_)
  generalize grownCap _ 2 0 _ = k1 at *
  have v0 : ReplAt ((((W.setCell ⟨w.heap.size, 0, none⟩ (.string sE)).setCell ⟨w.heap.size + 1, 256, none⟩ (.slice (some ⟨w.heap.size, 0, none⟩) 1 2)).alloc (.cells #[.int .u8 92] 5)).alloc (.cells #[.string sE] 9)) (w.heap.size + 1) (.slice none 0 0) (.slice none 0 0) (.slice (some ⟨w.heap.size, 0, none⟩) 1 2) :=
    (((hR.setOther ⟨w.heap.size, 0, none⟩ _ (by simp)).set256 _).alloc _).alloc _
  have t0 : RowAt ((((W.setCell ⟨w.heap.size, 0, none⟩ (.string sE)).setCell ⟨w.heap.size + 1, 256, none⟩ (.slice (some ⟨w.heap.size, 0, none⟩) 1 2)).alloc (.cells #[.int .u8 92] 5)).alloc (.cells #[.string sE] 9)) w.heap.size 9 [.string sE, .string ⟨#[]⟩] :=
    ((((t2.set 0 (.string sE)).setOther ⟨w.heap.size + 1, 256, none⟩ _ (by simp))).alloc _).alloc _
  have b0 : Below w.heap.size w ((((W.setCell ⟨w.heap.size, 0, none⟩ (.string sE)).setCell ⟨w.heap.size + 1, 256, none⟩ (.slice (some ⟨w.heap.size, 0, none⟩) 1 2)).alloc (.cells #[.int .u8 92] 5)).alloc (.cells #[.string sE] 9)) := (by repeat (first | exact Below.refl _ _ | assumption | (refine Below.setCell ?_ (by (first | omega | (simp; done) | (simp; omega) | (simp at *; omega))) _) | (refine Below.alloc ?_ (by (first | omega | (simp; done) | (simp; omega) | (simp at *; omega))) _) | (refine Below.drew ?_) | (refine Gr.into _ ?_ (by (first | omega | (simp; done) | (simp; omega) | (simp at *; omega))))))
  have z0 : ((((W.setCell ⟨w.heap.size, 0, none⟩ (.string sE)).setCell ⟨w.heap.size + 1, 256, none⟩ (.slice (some ⟨w.heap.size, 0, none⟩) 1 2)).alloc (.cells #[.int .u8 92] 5)).alloc (.cells #[.string sE] 9)).heap.size = W.heap.size + 1 + 1 := by simp
  generalize ((((W.setCell ⟨w.heap.size, 0, none⟩ (.string sE)).setCell ⟨w.heap.size + 1, 256, none⟩ (.slice (some ⟨w.heap.size, 0, none⟩) 1 2)).alloc (.cells #[.int .u8 92] 5)).alloc (.cells #[.string sE] 9)) = Y at *
  have y1 := hbB Y sEE
  have hYs := hsz Y 5 sEE
  have vV : ReplAt V (w.heap.size + 1) (.slice (some ⟨W.heap.size + 1 + 1, 0, none⟩) 2 k1) (.slice none 0 0) (.slice (some ⟨w.heap.size, 0, none⟩) 1 2) := by rw [hV]; exact (v0.into y1).set92 _
  have tV : RowAt V w.heap.size 9 [.string sE, .string ⟨#[]⟩] := by rw [hV]; exact (t0.into y1).setOther _ _ (by simp)
  have eV : RowAt V (W.heap.size + 1 + 1) 5 (Lib.byteCells [92, 92]) := by
    rw [hV, ← z0]
    exact (RowAt.bytes Y 5 sEE).setOther _ _ (by show Y.heap.size ≠ w.heap.size + 1; omega)
  have bV : Below w.heap.size w V := by rw [hV]; exact ((b0.trans (y1.mono b0.size)).setCell (by show _ ≤ w.heap.size + 1; omega) _)
  have oV : RowAt V o 9 [.string sC, .string sEC, .string sE, .string sEE] := ho.below bV ho.lt
  clear hV v0 t0 b0 z0 y1 hYs hR t2 ho2 oc0 oc1 oc2 oc3 rc92 rc256 rf92 rf256 tc0 tc1 tf0 tf1 hRl
  clear tl hol hBW
  obtain ⟨oc0, oc1, oc2, oc3⟩ : V.cell? ⟨o, 0, none⟩ = some (.string sC) ∧ V.cell? ⟨o, 1, none⟩ = some (.string sEC) ∧ V.cell? ⟨o, 2, none⟩ = some (.string sE) ∧ V.cell? ⟨o, 3, none⟩ = some (.string sEE) := ⟨oV.cell 0 (by simp), oV.cell 1 (by simp), oV.cell 2 (by simp), oV.cell 3 (by simp)⟩
  have rc44 : V.cell? ⟨w.heap.size + 1, 44, none⟩ = some (.slice none 0 0) := (vV.cell 44 (by omega)).1
  have rc256 : V.cell? ⟨w.heap.size + 1, 256, none⟩ = some (.slice (some ⟨w.heap.size, 0, none⟩) 1 2) := (vV.cell 256 (by omega)).1
  have rf44 := (vV.cell 44 (by omega)).2
  have rf256 := (vV.cell 256 (by omega)).2
  obtain ⟨tc0, tc1, tf0, tf1, tl⟩ := tV.two
  have hRl := vV.lt
  have hol := oV.lt
  have el := eV.lt
  rw [rounds_succ]
  go_wp2
  refine rounds_named (fun U hU => ?_)
  generalize grownCap _ 2 0 _ = k2 at *
  have v0 : ReplAt ((((V.setCell ⟨w.heap.size, 1, none⟩ (.string sC)).setCell ⟨w.heap.size + 1, 256, none⟩ (.slice (some ⟨w.heap.size, 0, none⟩) 2 2)).alloc (.cells #[.int .u8 44] 5)).alloc (.cells #[.string sC] 9)) (w.heap.size + 1) (.slice (some ⟨W.heap.size + 1 + 1, 0, none⟩) 2 k1) (.slice none 0 0) (.slice (some ⟨w.heap.size, 0, none⟩) 2 2) :=
    (((vV.setOther ⟨w.heap.size, 1, none⟩ _ (by simp)).set256 _).alloc _).alloc _
  have t0 : RowAt ((((V.setCell ⟨w.heap.size, 1, none⟩ (.string sC)).setCell ⟨w.heap.size + 1, 256, none⟩ (.slice (some ⟨w.heap.size, 0, none⟩) 2 2)).alloc (.cells #[.int .u8 44] 5)).alloc (.cells #[.string sC] 9)) w.heap.size 9 [.string sE, .string sC] :=
    ((((tV.set 1 (.string sC)).setOther ⟨w.heap.size + 1, 256, none⟩ _ (by simp))).alloc _).alloc _
  have e0 : RowAt ((((V.setCell ⟨w.heap.size, 1, none⟩ (.string sC)).setCell ⟨w.heap.size + 1, 256, none⟩ (.slice (some ⟨w.heap.size, 0, none⟩) 2 2)).alloc (.cells #[.int .u8 44] 5)).alloc (.cells #[.string sC] 9)) (W.heap.size + 1 + 1) 5 (Lib.byteCells [92, 92]) :=
    ((((eV.setOther _ _ (by simp; omega)).setOther ⟨w.heap.size + 1, 256, none⟩ _ (by simp; omega))).alloc _).alloc _
  have b0 : Below w.heap.size w ((((V.setCell ⟨w.heap.size, 1, none⟩ (.string sC)).setCell ⟨w.heap.size + 1, 256, none⟩ (.slice (some ⟨w.heap.size, 0, none⟩) 2 2)).alloc (.cells #[.int .u8 44] 5)).alloc (.cells #[.string sC] 9)) := (by repeat (first | exact Below.refl _ _ | assumption | (refine Below.setCell ?_ (by (first | omega | (simp; done) | (simp; omega) | (simp at *; omega))) _) | (refine Below.alloc ?_ (by (first | omega | (simp; done) | (simp; omega) | (simp at *; omega))) _) | (refine Below.drew ?_) | (refine Gr.into _ ?_ (by (first | omega | (simp; done) | (simp; omega) | (simp at *; omega))))))
  have z0 : ((((V.setCell ⟨w.heap.size, 1, none⟩ (.string sC)).setCell ⟨w.heap.size + 1, 256, none⟩ (.slice (some ⟨w.heap.size, 0, none⟩) 2 2)).alloc (.cells #[.int .u8 44] 5)).alloc (.cells #[.string sC] 9)).heap.size = V.heap.size + 1 + 1 := by simp
  generalize ((((V.setCell ⟨w.heap.size, 1, none⟩ (.string sC)).setCell ⟨w.heap.size + 1, 256, none⟩ (.slice (some ⟨w.heap.size, 0, none⟩) 2 2)).alloc (.cells #[.int .u8 44] 5)).alloc (.cells #[.string sC] 9)) = Y at *
  have y1 := hbB Y sEC
  have vU : ReplAt U (w.heap.size + 1) (.slice (some ⟨W.heap.size + 1 + 1, 0, none⟩) 2 k1) (.slice (some ⟨V.heap.size + 1 + 1, 0, none⟩) 2 k2) (.slice (some ⟨w.heap.size, 0, none⟩) 2 2) := by rw [hU]; exact (v0.into y1).set44 _
  have tU : RowAt U w.heap.size 9 [.string sE, .string sC] := by rw [hU]; exact (t0.into y1).setOther _ _ (by simp)
  have eU : RowAt U (W.heap.size + 1 + 1) 5 (Lib.byteCells [92, 92]) := by rw [hU]; exact (e0.into y1).setOther _ _ (by simp; omega)
  have cU : RowAt U (V.heap.size + 1 + 1) 5 (Lib.byteCells [92, 44]) := by
    rw [hU, ← z0]
    exact (RowAt.bytes Y 5 sEC).setOther _ _ (by show Y.heap.size ≠ w.heap.size + 1; omega)
  have bU : Below w.heap.size w U := by rw [hU]; exact ((b0.trans (y1.mono b0.size)).setCell (by show _ ≤ w.heap.size + 1; omega) _)
  clear hU v0 t0 b0 z0 y1 vV tV eV oV oc0 oc1 oc2 oc3 rc44 rc256 rf44 rf256 tc0 tc1 tf0 tf1 e0
  rw [rounds_succ]
  go_wp2
  go_ret
  exact ⟨_, rfl, ⟨_, _, _, _, _, vU, eU, cU, tU⟩, bU⟩
end Go.Proofs.YtjhdgpboofcelaaGreat
