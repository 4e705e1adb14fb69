/- strings.Replacer: built once. -/
import Derived.Test.YtjhdgpboofcelaaGreatC7
namespace Go.Proofs.YtjhdgpboofcelaaGreat
open Go.RowKit

/-- A replacer's cells. -/
def RowR (w : World) (r : Nat) (x0 x1 : Int) (x3 x4 : Value) : Prop := RowAt w r 96 [.int .u32 x0, .int .i32 x1, .int .u32 0, x3, x4]
theorem RowR.cells {w : World} {r : Nat} {x0 x1 : Int} {x3 x4 : Value} (h : RowR w r x0 x1 x3 x4) :
    w.cell? ⟨r, 0, none⟩ = some (.int .u32 x0) ∧ w.cell? ⟨r, 1, none⟩ = some (.int .i32 x1) ∧ w.cell? ⟨r, 3, none⟩ = some x3 ∧ w.cell? ⟨r, 4, none⟩ = some x4 ∧
    w.frozen? ⟨r, 0, none⟩ = false ∧ w.frozen? ⟨r, 1, none⟩ = false ∧ w.frozen? ⟨r, 3, none⟩ = false ∧ w.frozen? ⟨r, 4, none⟩ = false ∧ r < w.heap.size :=
  ⟨RowAt.cell h 0 (by simp), RowAt.cell h 1 (by simp), RowAt.cell h 3 (by simp), RowAt.cell h 4 (by simp), RowAt.frozen h 0 (by simp), RowAt.frozen h 1 (by simp), RowAt.frozen h 3 (by simp), RowAt.frozen h 4 (by simp), RowAt.lt h⟩
/-- What a call leaves that turns block r alone. -/
def But (B r : Nat) (w w' : World) : Prop := Below B w w' ∧ ∀ k, k < w.heap.size → k ≠ r → w'.heap[k]? = w.heap[k]?
theorem But.trans {B r : Nat} {a b c : World} (h : But B r a b) (k : But B r b c) : But B r a c := ⟨h.1.trans k.1, fun i h1 h2 => (k.2 i (Nat.lt_of_lt_of_le h1 h.1.size) h2).trans (h.2 i h1 h2)⟩
theorem But.refl (B r : Nat) (w : World) : But B r w w := ⟨Below.refl _ _, fun _ _ _ => rfl⟩
theorem But.setCell {B r : Nat} {w w' : World} (h : But B r w w') (hB : B ≤ r) (o : Nat) (v : Value) : But B r w (w'.setCell ⟨r, o, none⟩ v) := ⟨h.1.setCell hB _, fun k h1 h2 => (Below.heap_setCell _ _ _ _ (by show k ≠ r; exact h2)).trans (h.2 k h1 h2)⟩
theorem But.drew {B r : Nat} {w w' : World} (h : But B r w w') : But B r w w'.drew := ⟨h.1.drew, fun k h1 h2 => h.2 k h1 h2⟩
theorem But.of_below {B r : Nat} {w w' : World} (h : Below w.heap.size w w') (hB : B ≤ w.heap.size) : But B r w w' := ⟨h.mono hB, fun k h1 _ => h.block k h1⟩
theorem RowAt.but {w w' : World} {b B r : Nat} {T : TypeId} {vs : List Value} (h : RowAt w b T vs) (hb : But B r w w') (hr : b ≠ r) : RowAt w' b T vs := h.same (hb.2 b h.lt hr)
theorem IsRepl.but {w w' : World} {q B r : Nat} (h : IsRepl w q) (hb : But B r w w') (hr : ∃ x0 x1 x3 x4, RowR w r x0 x1 x3 x4) : IsRepl w' q := by
  obtain ⟨b1, b2, tb, k1, k2, h1, h2, h3, h4⟩ := h
  obtain ⟨x0, x1, x3, x4, hr⟩ := hr
  have ne : ∀ {k : Nat} {T : TypeId} {vs : List Value}, RowAt w k T vs → T ≠ 96 → k ≠ r := by
    rintro k T vs ⟨C, n, m, e1, -⟩ hT rfl
    obtain ⟨C', n', m', e2, -⟩ := hr
    rw [e1] at e2
    cases e2
    exact hT rfl
  have neq : q ≠ r := by
    rintro rfl
    obtain ⟨C, e1, -⟩ := h1
    obtain ⟨C', n', m', e2, -⟩ := hr
    rw [e1] at e2
    cases e2
  exact ⟨b1, b2, tb, k1, k2, h1.same (hb.2 q h1.lt neq), h2.but hb (ne h2 (by decide)), h3.but hb (ne h3 (by decide)), h4.but hb (ne h4 (by decide))⟩

theorem buildOnce_any (B r o c : Nat) (x0 x1 : Int) (w : World) (hr : RowR w r x0 x1 .nilIface (.slice (some ⟨o, 0, none⟩) 4 c)) (ho : RowAt w o 9 [.string sC, .string sEC, .string sE, .string sEE]) (hB : B ≤ r) :
    Calls Tryz.prog 65 #[.pointer (some ⟨r, 0, none⟩)] w fun e w' => e = .returned (.tuple #[]) ∧ ∃ q, RowR w' r x0 x1 (.iface 127 (.pointer (some ⟨q, 0, none⟩))) (.slice none 0 0) ∧ IsRepl w' q ∧ But B r w w' := by
  obtain ⟨c0, c1, c3, c4, f0, f1, f3, f4, hl⟩ := hr.cells
  go_enter Tryz.func65, Tryz.ntmps65
  go_wp2_with (go_at_call 74; refine Calls.mono (build_any r o c (.int .u32 x0) (.int .i32 x1) (.int .u32 0) .nilIface _ c4 ho) ?_; rintro e w' ⟨q, rfl, hq, hb⟩; obtain ⟨d0, d1, d3, d4, g0, g1, g3, g4, hl2⟩ := RowR.cells (RowAt.into hr hb : RowR w' r x0 x1 .nilIface (.slice (some ⟨o, 0, none⟩) 4 c)))
  go_end0
  have hB2 : But B r w w' := But.of_below hb (by omega)
  have h1 : RowR (w'.setCell ⟨r, 3, none⟩ (.iface 127 (.pointer (some ⟨q, 0, none⟩)))) r x0 x1 (.iface 127 (.pointer (some ⟨q, 0, none⟩))) (.slice (some ⟨o, 0, none⟩) 4 c) :=
    (RowAt.into hr hb).set 3 (.iface 127 (.pointer (some ⟨q, 0, none⟩)))
  have h2 : RowR ((w'.setCell ⟨r, 3, none⟩ (.iface 127 (.pointer (some ⟨q, 0, none⟩)))).setCell ⟨r, 4, none⟩ (.slice none 0 0)) r x0 x1 (.iface 127 (.pointer (some ⟨q, 0, none⟩))) (.slice none 0 0) :=
    RowAt.set h1 4 (.slice none 0 0)
  have h3 : But B r w' ((w'.setCell ⟨r, 3, none⟩ (.iface 127 (.pointer (some ⟨q, 0, none⟩)))).setCell ⟨r, 4, none⟩ (.slice none 0 0)) := ((But.refl _ _ _).setCell hB _ _).setCell hB _ _
  exact ⟨rfl, q, h2, hq.but h3 ⟨_, _, _, _, RowAt.into hr hb⟩, hB2.trans h3⟩

set_option maxRecDepth 100000 in
set_option maxHeartbeats 1600000 in
/-- '(*sync.Once).doSlow', not yet done, the lock free: the lock is taken, the replacer is built, 'done' is stored, the lock is let go. -/
theorem slow_any (B r o c : Nat) (w : World) (hr : RowR w r 0 0 .nilIface (.slice (some ⟨o, 0, none⟩) 4 c)) (ho : RowAt w o 9 [.string sC, .string sEC, .string sE, .string sEE]) (hB : B ≤ r) :
    Calls Tryz.prog 73 #[.pointer (some ⟨r, 0, none⟩), .func (.func 65) #[.pointer (some ⟨r, 0, none⟩)] #[]] w fun e w' => e = .returned (.tuple #[]) ∧ ∃ q, RowR w' r 1 0 (.iface 127 (.pointer (some ⟨q, 0, none⟩))) (.slice none 0 0) ∧ IsRepl w' q ∧ But B r w w' := by
  obtain ⟨c0, c1, c3, c4, f0, f1, f3, f4, hl⟩ := hr.cells
  have hl1 := run_call_load (P := Tryz.prog) Tryz.func79 (by kernel_rfl) (by kernel_rfl) (by kernel_rfl) .u32 (by kernel_rfl) (w := w.setCell ⟨r, 1, none⟩ (.int .i32 1)) (a := ⟨r, 0, none⟩) (x := 0) ((World.cell?_setCell_other _ ⟨r, 1, none⟩ ⟨r, 0, none⟩ _ (by simp)).trans c0)
  have hnot : ∀ (x : Bool) (w : World), (Op.unary .not (.bool x)).run Tryz.prog w = .ok (.bool (!x)) w := fun _ _ => rfl
  have hne : o ≠ r := by
    rintro rfl
    obtain ⟨C, n, m, e1, -⟩ := ho
    obtain ⟨C', n', m', e2, -⟩ := hr
    rw [e1] at e2
    cases e2
  have hr1 : RowR (w.setCell ⟨r, 1, none⟩ (.int .i32 1)) r 0 1 .nilIface (.slice (some ⟨o, 0, none⟩) 4 c) := RowAt.set hr 1 (.int .i32 1)
  have ho1 : RowAt (w.setCell ⟨r, 1, none⟩ (.int .i32 1)) o 9 [.string sC, .string sEC, .string sE, .string sEE] := ho.setOther _ _ hne
  have hb1 : But B r w (w.setCell ⟨r, 1, none⟩ (.int .i32 1)) := (But.refl _ _ _).setCell hB _ _
  go_enter_defers Tryz.func73, Tryz.ntmps73
  go_wp2_with (first
    | (go_at_call 80; refine (lock_free ⟨r, 1, none⟩ _ c1 f1).mono ?_; rintro e w' ⟨rfl, rfl⟩)
    | (go_at_call 65; refine (buildOnce_any B r o c 0 1 _ hr1 ho1 hB).mono ?_; rintro e w' ⟨rfl, q, hr2, hq, hb2⟩)
    | (go_at_call 72; go_in))
  obtain ⟨d0, d1, d3, d4, g0, g1, g3, g4, dl⟩ := hr2.cells
  refine leaves_cons (f := 82) (args := #[.pointer (some ⟨r, 0, none⟩), .bool true]) (by simp) (by simp [go_sem]) ?_
  refine (store_deferred ⟨r, 0, none⟩ (.int .u32 0) .returning _ d0 g0).mono ?_
  rintro e u' w'' ⟨rfl, rfl, rfl⟩
  have hr3 : RowR (w'.drew.setCell ⟨r, 0, none⟩ (.int .u32 1)) r 1 1 (.iface 127 (.pointer (some ⟨q, 0, none⟩))) (.slice none 0 0) := RowAt.set (RowAt.drew hr2) 0 (.int .u32 1)
  obtain ⟨e0, e1, e3, e4, k0, k1, k3, k4, el⟩ := hr3.cells
  refine leaves_cons (f := 81) (args := #[.pointer (some ⟨r, 1, none⟩)]) (by simp [settle]) (by simp [go_sem]) ?_
  refine (unlock_deferred ⟨r, 1, none⟩ _ _ e1 k1).mono ?_
  rintro e u' w'' ⟨rfl, rfl, rfl⟩
  have hr4 : RowR ((w'.drew.setCell ⟨r, 0, none⟩ (.int .u32 1)).setCell ⟨r, 1, none⟩ (.int .i32 0)) r 1 0 (.iface 127 (.pointer (some ⟨q, 0, none⟩))) (.slice none 0 0) := RowAt.set hr3 1 (.int .i32 0)
  have hb3 : But B r w' ((w'.drew.setCell ⟨r, 0, none⟩ (.int .u32 1)).setCell ⟨r, 1, none⟩ (.int .i32 0)) := ((But.refl _ _ _).drew.setCell hB _ _).setCell hB _ _
  have hq4 := hq.but hb3 ⟨_, _, _, _, hr2⟩
  have hb4 := (hb1.trans hb2).trans hb3
  simp [Leaves, settle, results, Tryz.results73]
  exact ⟨q, hr4, hq4, hb4⟩

/-- '(*sync.Once).Do', not yet done. -/
theorem do_first (B r o c : Nat) (w : World) (hr : RowR w r 0 0 .nilIface (.slice (some ⟨o, 0, none⟩) 4 c)) (ho : RowAt w o 9 [.string sC, .string sEC, .string sE, .string sEE]) (hB : B ≤ r) :
    Calls Tryz.prog 64 #[.pointer (some ⟨r, 0, none⟩), .func (.func 65) #[.pointer (some ⟨r, 0, none⟩)] #[]] w fun e w' => e = .returned (.tuple #[]) ∧ ∃ q, RowR w' r 1 0 (.iface 127 (.pointer (some ⟨q, 0, none⟩))) (.slice none 0 0) ∧ IsRepl w' q ∧ But B r w w' := by
  obtain ⟨c0, c1, c3, c4, f0, f1, f3, f4, hl⟩ := hr.cells
  have hl1 := run_call_load (P := Tryz.prog) Tryz.func79 (by kernel_rfl) (by kernel_rfl) (by kernel_rfl) .u32 (by kernel_rfl) c0
  have hnot : ∀ (x : Bool) (w : World), (Op.unary .not (.bool x)).run Tryz.prog w = .ok (.bool (!x)) w := fun _ _ => rfl
  go_enter Tryz.func64, Tryz.ntmps64
  go_wp2_with (first
    | (go_at_call 73; refine (slow_any B r o c _ hr ho hB).mono ?_; rintro e w' ⟨rfl, q, hr2, hq, hb2⟩)
    | (go_at_call 72; go_in))
  go_end0
  exact ⟨rfl, q, hr2, hq, hb2⟩
/-- '(*sync.Once).Do', done already. -/
theorem do_done (r : Nat) (fv x3 x4 : Value) (w : World) (hr : RowR w r 1 0 x3 x4) :
    Calls Tryz.prog 64 #[.pointer (some ⟨r, 0, none⟩), fv] w fun e w' => e = .returned (.tuple #[]) ∧ w' = w := by
  obtain ⟨c0, c1, c3, c4, f0, f1, f3, f4, hl⟩ := hr.cells
  have hl1 := run_call_load (P := Tryz.prog) Tryz.func79 (by kernel_rfl) (by kernel_rfl) (by kernel_rfl) .u32 (by kernel_rfl) c0
  have hnot : ∀ (x : Bool) (w : World), (Op.unary .not (.bool x)).run Tryz.prog w = .ok (.bool (!x)) w := fun _ _ => rfl
  go_enter Tryz.func64, Tryz.ntmps64
  go_wp2
  go_end0
  exact ⟨rfl, rfl⟩
end Go.Proofs.YtjhdgpboofcelaaGreat
