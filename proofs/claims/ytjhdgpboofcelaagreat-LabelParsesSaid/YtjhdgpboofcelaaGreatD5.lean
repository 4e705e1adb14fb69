/- Package label: the reader's steps. -/
import Derived.Test.YtjhdgpboofcelaaGreatD4
namespace Go.Proofs.YtjhdgpboofcelaaGreat
open Go.RowKit

def labCells (L : List BLab) : List Value := L.flatMap fun x => [.string x.1, .string x.2]
theorem labCells_append (A B : List BLab) : labCells (A ++ B) = labCells A ++ labCells B := by simp [labCells]
theorem labCells_length (L : List BLab) : (labCells L).length = L.length * 2 := by
  induction L with
  | nil => rfl
  | cons x L ih => rw [show labCells (x :: L) = [.string x.1, .string x.2] ++ labCells L from rfl, List.length_append, ih]; simp; omega
def rdCells (b : Nat) (r : Rd) (v nv : Value) : List Value := [.string r.name, .string r.value, v, nv, .bool r.esc, .bool r.inVal]
/-- A reader in memory, its labels in a row of its own from block M on. -/
def RdAt (M : Nat) (w : World) (b : Nat) (r : Rd) (nv : Value) : Prop := b < M ∧ M ≤ w.heap.size ∧ ∃ v, RowAt w b 45 (rdCells b r v nv) ∧ w.ownsRow M 41 2 v r.all.length (labCells r.all)
theorem RdAt.into {M : Nat} {w w' : World} {b : Nat} {r : Rd} {nv : Value} (h : RdAt M w b r nv) (hb : Below w.heap.size w w') : RdAt M w' b r nv := by
  obtain ⟨h1, h2, v, h3, h4⟩ := h
  exact ⟨h1, Nat.le_trans h2 hb.size, v, RowAt.into h3 hb, ownsRow_below h4 hb⟩
theorem ownsRow_set {w : World} {base : Nat} {e : TypeId} {size n : Nat} {v : Value} {xs : List Value} (h : w.ownsRow base e size v n xs) (p : Addr) (u : Value) (hp : p.block < base) : (w.setCell p u).ownsRow base e size v n xs :=
  ownsRow_same h fun k hk _ => Below.heap_setCell _ _ _ _ (by omega)
def eqIs (s : ByteArray) : Bool := s.toList == [61]
/-- A rune is taken. -/
def Rd.step (r : Rd) (s : ByteArray) : Rd :=
  if r.inVal then
    if keyIs s 44 && !r.esc then { name := ⟨#[]⟩, value := ⟨#[]⟩, all := r.all ++ [(r.name, r.value)], inVal := false, esc := r.esc }
    else if keyIs s 92 && !r.esc then { r with esc := true }
    else { r with esc := false, value := r.value ++ s }
  else if eqIs s then { r with inVal := true }
  else { r with name := r.name ++ s }

/-- What a step of the reader leaves: block b and blocks from M on may have turned. -/
def Stay (B M b : Nat) (w w' : World) : Prop := Below B w w' ∧ ∀ k, k < M → k ≠ b → k < w.heap.size → w'.heap[k]? = w.heap[k]?
theorem Stay.refl (B M b : Nat) (w : World) : Stay B M b w w := ⟨Below.refl _ _, fun _ _ _ _ => rfl⟩
theorem Stay.trans {B M b : Nat} {u v w : World} (h : Stay B M b u v) (k : Stay B M b v w) : Stay B M b u w := ⟨h.1.trans k.1, fun i h1 h2 h3 => (k.2 i h1 h2 (Nat.lt_of_lt_of_le h3 h.1.size)).trans (h.2 i h1 h2 h3)⟩
theorem Stay.setCell {B M b : Nat} {w w' : World} (h : Stay B M b w w') (hB : B ≤ b) (o : Nat) (v : Value) : Stay B M b w (w'.setCell ⟨b, o, none⟩ v) := ⟨h.1.setCell hB _, fun k h1 h2 h3 => (Below.heap_setCell _ _ _ _ (by show k ≠ b; exact h2)).trans (h.2 k h1 h2 h3)⟩
theorem Stay.alloc {B M b : Nat} {w w' : World} (h : Stay B M b w w') (hB : B ≤ w'.heap.size) (o : Obj) : Stay B M b w (w'.alloc o) := ⟨h.1.alloc hB _, fun k h1 h2 h3 => (Below.heap_alloc _ _ _ (Nat.lt_of_lt_of_le h3 h.1.size)).trans (h.2 k h1 h2 h3)⟩
theorem Stay.of_below {B M b : Nat} {w w' : World} (h : Below w.heap.size w w') (hB : B ≤ w.heap.size) : Stay B M b w w' := ⟨h.mono hB, fun k _ _ h3 => h.block k h3⟩
theorem Stay.grown {B M b : Nat} {w w' w'' : World} {row : Option Nat} (h : Stay B M b w w') (hg : w'.grownBy w'' row) (hB : B ≤ w'.heap.size) (hr : ∀ k, row = some k → M ≤ k) (hBM : B ≤ M) : Stay B M b w w'' :=
  ⟨h.1.grown hg hB (fun k e => Nat.le_trans hBM (hr k e)), fun k h1 h2 h3 => (hg.block k (Nat.lt_of_lt_of_le h3 h.1.size) (fun e => by have := hr k e.symm; omega)).trans (h.2 k h1 h2 h3)⟩

theorem name_any (B M b : Nat) (r : Rd) (s : ByteArray) (w : World) (h : RdAt M w b r (nextV b false)) (hv : r.inVal = false) (hB : B ≤ b) (hs : r.name.size + s.size ≤ 1000000) :
    Calls Tryz.prog 49 #[.pointer (some ⟨b, 0, none⟩), .string s] w fun e w' => e = .returned .nilIface ∧ RdAt M w' b (r.step s) (nextV b (r.step s).inVal) ∧ Stay B M b w w' := by
  have hmf : ∀ (fn : Fn) (first cap : Array Value) (w : World), (Instr.makeFunc fn first cap).run Tryz.prog w = .ok (.func fn first cap) w := fun _ _ _ _ => rfl
  obtain ⟨h1, h2, v, h3, h4⟩ := h
  obtain ⟨n, u, al, i, e⟩ := r
  simp only at hv hs
  subst hv
  have c0 := h3.cell 0 (by simp [rdCells])
  have f0 := h3.frozen 0 (by simp [rdCells])
  have c3 := h3.cell 3 (by simp [rdCells])
  have f3 := h3.frozen 3 (by simp [rdCells])
  have c5 := h3.cell 5 (by simp [rdCells])
  have f5 := h3.frozen 5 (by simp [rdCells])
  have hbl := h3.lt
  simp only [rdCells, nextV, List.getElem_cons_zero, List.getElem_cons_succ] at c0 c3 c5
  unfold Rd.step
  simp only [Bool.false_eq_true, if_false]
  cases he : eqIs s
  · have he' : (s.toList == [61]) = false := he
    go_enter Tryz.func49, Tryz.ntmps49
    go_wp2
    go_ret
    refine ⟨rfl, ⟨h1, by simpa using h2, v, ?_, ?_⟩, (Stay.refl _ _ _ _).setCell hB _ _⟩
    · exact h3.set 0 (.string (n ++ s))
    · exact ownsRow_set h4 _ _ h1
  · have he' : (s.toList == [61]) = true := he
    go_enter Tryz.func49, Tryz.ntmps49
    go_wp2
    go_ret
    refine ⟨rfl, ⟨h1, by simpa using h2, v, ?_, ?_⟩, ((Stay.refl _ _ _ _).setCell hB _ _).setCell hB _ _⟩
    · exact (h3.set 3 _).set 5 (.bool true)
    · exact ownsRow_set (ownsRow_set h4 _ _ h1) _ _ h1

theorem escapes_any (B M b : Nat) (r : Rd) (nv : Value) (w : World) (h : RdAt M w b r nv) (hB : B ≤ b) :
    Calls Tryz.prog 70 #[.pointer (some ⟨b, 0, none⟩)] w fun e w' => e = .returned (.tuple #[]) ∧ RdAt M w' b { r with esc := true } nv ∧ Stay B M b w w' := by
  obtain ⟨h1, h2, v, h3, h4⟩ := h
  have c4 := h3.cell 4 (by simp [rdCells])
  have f4 := h3.frozen 4 (by simp [rdCells])
  have hbl := h3.lt
  simp only [rdCells, List.getElem_cons_zero, List.getElem_cons_succ] at c4
  go_enter Tryz.func70, Tryz.ntmps70
  go_wp2
  go_end0
  refine ⟨rfl, ⟨h1, by simpa using h2, v, ?_, ?_⟩, (Stay.refl _ _ _ _).setCell hB _ _⟩
  · exact h3.set 4 (.bool true)
  · exact ownsRow_set h4 _ _ h1

set_option maxRecDepth 100000 in
set_option maxHeartbeats 1000000 in
theorem ends_any (B M b : Nat) (r : Rd) (nv : Value) (w : World) (h : RdAt M w b r nv) (hB : B ≤ b) (hl : r.all.length ≤ 1000000) :
    Calls Tryz.prog 50 #[.pointer (some ⟨b, 0, none⟩)] w fun e w' => e = .returned (.tuple #[]) ∧ RdAt M w' b { name := ⟨#[]⟩, value := ⟨#[]⟩, all := r.all ++ [(r.name, r.value)], inVal := false, esc := r.esc } (nextV b false) ∧ Stay B M b w w' := by
  have hmf : ∀ (fn : Fn) (first cap : Array Value) (w : World), (Instr.makeFunc fn first cap).run Tryz.prog w = .ok (.func fn first cap) w := fun _ _ _ _ => rfl
  obtain ⟨h1, h2, v, h3, h4⟩ := h
  obtain ⟨n, u, al, i, e⟩ := r
  simp only at hl h4 h3
  have c0 := h3.cell 0 (by simp [rdCells])
  have c1 := h3.cell 1 (by simp [rdCells])
  have c2 := h3.cell 2 (by simp [rdCells])
  have hbl := h3.lt
  simp only [rdCells, List.getElem_cons_zero, List.getElem_cons_succ] at c0 c1 c2
  go_enter Tryz.func50, Tryz.ntmps50
  go_wp2
  refine wp_region_gr_free 0 14 [10, 11, 12, 13] (by kernel_rfl) (by kernel_rfl) ?_
  simp only [List.take_succ_cons, List.take_zero]
  repeat (go_big_quiet_step (first | fail))
  refine wpQuiet_nil ?_
  intro g
  have hgl := g.le
  refine wpAnyC_pureL 0 (by kernel_rfl) ?_
  simp only [List.drop_succ_cons, List.drop_zero, List.take_succ_cons, List.take_zero]
  go_big_quiet_step (first | fail)
  refine wpQuiet_nil ?_
  refine wpAnyC_pureL 1 (by kernel_rfl) ?_
  simp only [List.drop_succ_cons, List.drop_zero, List.take_succ_cons, List.take_zero]
  go_big_quiet_step (first | fail)
  refine wpQuiet_nil ?_
  refine wpAnyC_pureL 2 (by kernel_rfl) ?_
  simp only [List.drop_succ_cons, List.drop_zero, List.take_succ_cons, List.take_zero]
  go_big_quiet_step (first | fail)
  refine wpQuiet_nil ?_
  refine wpAnyC_pureL 3 (by kernel_rfl) ?_
  simp only [List.drop_succ_cons, List.drop_zero, List.take_succ_cons, List.take_zero]
  go_big_quiet_step (first | fail)
  refine wpQuiet_nil ?_
  refine wpAnyC_readL 4 (⟨g, rfl⟩) (by kernel_rfl) ?_
  simp only [List.drop_succ_cons, List.drop_zero, List.take_succ_cons, List.take_zero]
  go_big_quiet_step (first | fail)
  refine wpQuiet_nil ?_
  refine wpAnyC_pureL 5 (by kernel_rfl) ?_
  simp only [List.drop_succ_cons, List.drop_zero, List.take_succ_cons, List.take_zero]
  go_big_quiet_step (first | fail)
  refine wpQuiet_nil ?_
  refine wpAnyC_pureL 6 (by kernel_rfl) ?_
  simp only [List.drop_succ_cons, List.drop_zero, List.take_succ_cons, List.take_zero]
  go_big_quiet_step (first | fail)
  refine wpQuiet_nil ?_
  refine wpAnyC_pureL 7 (by kernel_rfl) ?_
  simp only [List.drop_succ_cons, List.drop_zero, List.take_succ_cons, List.take_zero]
  go_big_quiet_step (first | fail)
  refine wpQuiet_nil ?_
  refine wpAnyC_readL 8 (⟨g, rfl⟩) (by kernel_rfl) ?_
  simp only [List.drop_succ_cons, List.drop_zero, List.take_succ_cons, List.take_zero]
  go_big_quiet_step (first | fail)
  refine wpQuiet_nil ?_
  refine wpAnyC_one 9 rfl rfl (by kernel_rfl) (fun K hK => ?_)
  go_wp2
  refine hK _ _ (.inr (Gr.of (g.below.alloc hgl _))) ?_
  refine wpAnyC_one 10 rfl rfl (by kernel_rfl) (fun K hK => ?_)
  have hrow : RowAt (g.world.alloc (.cells #[.string n, .string u] 41)) g.world.heap.size 41 [.string n, .string u] := RowAt.of_new _ _ _
  obtain ⟨i0, hi, hz0, hz1, hz2⟩ := info_parts (show (Tryz.prog.info? 41).map (fun i => (i.zero, i.size, i.bytes)) = some (some (.agg #[.string ⟨#[]⟩, .string ⟨#[]⟩]), 2, 32) by kernel_rfl)
  refine wp_append_own _ (.tmp 6) (.tmp 11) 23 rfl M 41 i0 (.agg #[.string ⟨#[]⟩, .string ⟨#[]⟩]) 2 32 Tryz.underlying23 hi hz0 hz1 hz2 rfl (by omega) v al.length (labCells al) rfl (World.ownsRow.alloc (ownsRow_below h4 g.below) _) ⟨g.world.heap.size, 0, none⟩ 1 1 [.string n, .string u] rfl rfl
    (fun j x hj => by
      obtain ⟨hlt, rfl⟩ := List.getElem?_eq_some_iff.1 hj
      have e : (⟨g.world.heap.size, 0, none⟩ : Addr).add j = ⟨g.world.heap.size, j, none⟩ := by by_cases h0 : j = 0 <;> simp [Addr.add, h0]
      rw [e]; exact hrow.cell j hlt)
    (fun x hx => by simp at hx; rcases hx with rfl | rfl <;> rfl) (by unfold maxLen; omega) (by omega) (by simp; omega) ?_
  intro v' Y hownY hgY _
  have hnb : ∀ g, v.ownBlock = some g → M ≤ g := by
    intro g hg
    obtain ⟨-, ⟨rfl, -⟩ | ⟨g', cap', cur, rfl, h3, -⟩⟩ := h4
    · cases hg
    · cases hg; exact h3
  have hbw : Below w.heap.size w (g.world.alloc (.cells #[.string n, .string u] 41)) := g.below.alloc hgl _
  have hbY : Y.heap[b]? = w.heap[b]? := (hgY.block b (by simp; omega) (fun e => by have := hnb b e.symm; omega)).trans (hbw.block b hbl)
  have h3Y : RowAt Y b 45 (rdCells b { name := n, value := u, all := al, inVal := i, esc := e } v nv) := h3.same hbY
  have hBY : Stay B M b w Y := (Stay.of_below hbw (by omega)).grown hgY (by have := hbw.size; omega) (fun k e => hnb k e) (by omega)
  have hYs := hgY.size
  rw [World.size_alloc] at hYs
  have hownY' : Y.ownsRow M 41 2 v' (al ++ [(n, u)]).length (labCells (al ++ [(n, u)])) := by
    rw [List.length_append, labCells_append]; exact hownY
  clear hownY hgY hnb hbw hbY hrow h4 h3 c0 c1 c2
  have hbl2 := h3Y.lt
  have c0 := h3Y.cell 0 (by simp [rdCells])
  have c1 := h3Y.cell 1 (by simp [rdCells])
  have c2 := h3Y.cell 2 (by simp [rdCells])
  have c3 := h3Y.cell 3 (by simp [rdCells])
  have c5 := h3Y.cell 5 (by simp [rdCells])
  have f0 := h3Y.frozen 0 (by simp [rdCells])
  have f1 := h3Y.frozen 1 (by simp [rdCells])
  have f2 := h3Y.frozen 2 (by simp [rdCells])
  have f3 := h3Y.frozen 3 (by simp [rdCells])
  have f5 := h3Y.frozen 5 (by simp [rdCells])
  simp only [rdCells, List.getElem_cons_zero, List.getElem_cons_succ] at c0 c1 c2 c3 c5
  have hw' := hownY'
  obtain ⟨-, ⟨-, hz⟩ | ⟨yg, yc, ycur, rfl, -⟩⟩ := hw'
  · simp at hz
  refine hK _ _ (.inl rfl) ?_
  refine wpAnyC_one 11 rfl rfl (by kernel_rfl) (fun K hK => ?_)
  go_wp2
  refine hK _ _ (.inl rfl) ?_
  refine wpAnyC_one 12 rfl rfl (by kernel_rfl) (fun K hK => ?_)
  go_wp2
  refine hK _ _ (.inl rfl) ?_
  refine wpAnyC_one 13 rfl rfl (by kernel_rfl) (fun K hK => ?_)
  go_wp2
  refine hK _ _ (.inl rfl) ?_
  refine wpAnyC_end (by kernel_rfl) ?_
  go_wp2
  go_end0
  refine ⟨rfl, ⟨h1, by simp; omega, .slice (some ⟨yg, 0, none⟩) (al ++ [(n, u)]).length yc, ?_, ?_⟩, ((((hBY.setCell hB _ _).setCell hB _ _).setCell hB _ _).setCell hB _ _).setCell hB _ _⟩
  · have hr1 := ((((h3Y.set 2 (.slice (some ⟨yg, 0, none⟩) (al ++ [(n, u)]).length yc)).set 0 (.string ⟨#[]⟩)).set 1 (.string ⟨#[]⟩)).set 3 (nextV b false)).set 5 (.bool false)
    simpa [rdCells, nextV] using hr1
  · exact ownsRow_set (ownsRow_set (ownsRow_set (ownsRow_set (ownsRow_set hownY' _ _ h1) _ _ h1) _ _ h1) _ _ h1) _ _ h1
end Go.Proofs.YtjhdgpboofcelaaGreat
