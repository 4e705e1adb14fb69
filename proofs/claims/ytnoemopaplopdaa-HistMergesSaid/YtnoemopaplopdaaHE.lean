/- Package hist: the map at work. -/
import Derived.Test.YtnoemopaplopdaaHD
import Derived.Maps.OwnSet
namespace Go.Proofs.Ytnoemopaplopdaa
open Go.RowKit Go.Maps

def encB (p : Int × Nat) : Lit × DataW Unit := (.int .i64 p.1, .lit (.int .u64 p.2))
def datM (M : List (Int × Nat)) : DataW Unit := .map (M.map encB)
def getM (M : List (Int × Nat)) (a : Int) : Nat := match M.find? (fun p => decide (p.1 = a)) with | some p => p.2 | none => 0
def delM (M : List (Int × Nat)) (a : Int) : List (Int × Nat) := M.filter fun p => !decide (p.1 = a)
def insM (x : Int × Nat) : List (Int × Nat) → List (Int × Nat)
  | [] => [x]
  | y :: r => if x.1 < y.1 then x :: y :: r else y :: insM x r
def putM (M : List (Int × Nat)) (a : Int) (n : Nat) : List (Int × Nat) := insM (a, n) (delM M a)
theorem find_encB (M : List (Int × Nat)) (a : Int) : (M.map encB).find? (fun p => p.1.sameKey (.int .i64 a)) = (M.find? (fun p => decide (p.1 = a))).map encB := by
  rw [List.find?_map]
  congr 1
  congr 1
  funext p
  simp [encB, Lit.sameKey, Function.comp]
theorem atKey_datM (M : List (Int × Nat)) (a : Int) : (datM M).atKey (.int .i64 a) (.lit (.int .u64 0)) = .lit (.int .u64 (getM M a : Nat)) := by
  unfold datM DataW.atKey getM
  simp only [find_encB]
  cases M.find? (fun p => decide (p.1 = a)) <;> rfl
theorem filter_encB (M : List (Int × Nat)) (a : Int) : (M.map encB).filter (fun p => !p.1.sameKey (.int .i64 a)) = (delM M a).map encB := by
  unfold delM
  rw [List.filter_map]
  congr 1
  congr 1
  funext p
  simp [encB, Lit.sameKey, Function.comp]
theorem insert_encB (x : Int × Nat) : ∀ M : List (Int × Nat), DataW.insert (encB x) (M.map encB) = (insM x M).map encB
  | [] => rfl
  | y :: r => by
    simp only [List.map_cons, DataW.insert, insM]
    by_cases h : x.1 < y.1
    · rw [if_pos h, if_pos (by simpa [encB, Lit.before] using h)]; rfl
    · rw [if_neg h, if_neg (by simpa [encB, Lit.before] using h), insert_encB x r]; rfl
theorem put_datM (M : List (Int × Nat)) (a : Int) (n : Nat) : (datM M).put (.int .i64 a) (.lit (.int .u64 n)) = datM (putM M a n) := by
  unfold datM DataW.put putM
  simp only [filter_encB]
  exact congrArg DataW.map (insert_encB (a, n) (delM M a))
theorem del_datM (M : List (Int × Nat)) (a : Int) : (datM M).del (.int .i64 a) = datM (delM M a) := by
  unfold datM DataW.del
  simp only [filter_encB]

/-- Block bm of w is the map M. -/
def CountsAt (w : World) (bm : Nat) (M : List (Int × Nat)) : Prop := w.ownsMap Try.prog 3 (plainElem Try.prog 22) bm M.length (datM M)
theorem ownsMap_tight {w : World} {P : Program} {k : TypeId} {R : Value → Option (DataW Unit × List MemPlace)} {b n : Nat} {D : DataW Unit} (h : w.ownsMap P k R b n D) : w.ownsMap P k R b (Maps.size D) D := by
  obtain ⟨es, clock, hb, F, hs, rfl⟩ := h
  exact ⟨es, clock, hb, F, by simp [Maps.size, length_sorted], rfl⟩
theorem CountsAt.of {w : World} {bm n : Nat} {M : List (Int × Nat)} (h : w.ownsMap Try.prog 3 (plainElem Try.prog 22) bm n (datM M)) : CountsAt w bm M := by
  have := ownsMap_tight h
  simpa [CountsAt, datM, Maps.size] using this
theorem keyed : Keyed Try.prog 3 := int_keyed Try.underlying3
theorem key_of {a : Int} (h : (Lit.int .i64 a).wf = true) : keyOf Try.prog 3 (.int .i64 a) = some (.int .i64 a) := keyOf_int_mk Try.underlying3 h

theorem wf_i64 {a : Int} (h : -9223372036854775808 ≤ a ∧ a ≤ 9223372036854775807) : (Lit.int .i64 a).wf = true := by
  have e1 : IntKind.i64.min = -9223372036854775808 := by decide +kernel
  have e2 : IntKind.i64.max = 9223372036854775807 := by decide +kernel
  simp [Lit.wf, e1, e2]; omega
theorem wf_u64 {a : Nat} (h : a < 18446744073709551616) : (Lit.int .u64 (a : Int)).wf = true := by
  have e1 : IntKind.u64.min = 0 := by decide +kernel
  have e2 : IntKind.u64.max = 18446744073709551615 := by decide +kernel
  simp [Lit.wf, e1, e2]; omega
theorem CountsAt.look {w : World} {bm : Nat} {M : List (Int × Nat)} (h : CountsAt w bm M) {a : Int} (ha : (Lit.int .i64 a).wf = true) :
    (Instr.lookup 76 (.map (some bm)) (.int .i64 a) false).run Try.prog w = .ok (.int .u64 (getM M a : Nat)) w := by
  obtain ⟨c, h1, h2, -⟩ := World.ownsMap.lookup_int h keyed Try.underlying76 Try.underlying22 (by kernel_rfl) (key_of ha)
  rw [atKey_datM] at h2
  simp only [DataW.lit.injEq, Lit.int.injEq, true_and] at h2
  have : c = (getM M a : Nat) := h2.symm
  rw [h1, this]
theorem CountsAt.put {w : World} {bm : Nat} {M : List (Int × Nat)} (h : CountsAt w bm M) (hn : M.length < maxLen) {a : Int} (ha : (Lit.int .i64 a).wf = true) {n : Nat} (hw : n < 18446744073709551616) :
    ∃ w', (Instr.mapUpdate 76 (.map (some bm)) (.int .i64 a) (.int .u64 n)).run Try.prog w = .ok () w' ∧ CountsAt w' bm (putM M a n) ∧ w.mapTurned w' bm := by
  obtain ⟨w', h1, h2, h3⟩ := World.ownsMap.store (R := plainElem Try.prog 22) h keyed Try.underlying76 hn (key_of ha) (plainElem_int Try.underlying22 (wf_u64 hw))
  rw [put_datM] at h2
  exact ⟨w', h1, CountsAt.of h2, h3⟩
theorem CountsAt.drop {w : World} {bm : Nat} {M : List (Int × Nat)} (h : CountsAt w bm M) {a : Int} (ha : (Lit.int .i64 a).wf = true) (ty : TypeId) :
    ∃ w', (Builtin.delete_ #[76, 3] ty #[.map (some bm), .int .i64 a]).run Try.prog w = .ok (.tuple #[]) w' ∧ CountsAt w' bm (delM M a) ∧ w.mapTurned w' bm := by
  obtain ⟨w', h1, h2, h3⟩ := World.ownsMap.drop h keyed Try.underlying76 (key_of ha) ty
  rw [del_datM] at h2
  exact ⟨w', h1, CountsAt.of h2, h3⟩
theorem CountsAt.below {w W : World} {bm B : Nat} {M : List (Int × Nat)} (h : CountsAt w bm M) (hb : Below B w W) (hB : bm < B) : CountsAt W bm M := by
  obtain ⟨es, clock, h1, h2⟩ := h
  exact ⟨es, clock, (hb.block bm hB).trans h1, h2⟩
theorem CountsAt.lt {w : World} {bm : Nat} {M : List (Int × Nat)} (h : CountsAt w bm M) : bm < w.heap.size := World.ownsMap.lt h
theorem CountsAt.ne {w : World} {bm b : Nat} {M : List (Int × Nat)} (h : CountsAt w bm M) {T : TypeId} {vs : List Value} (r : RowAt w b T vs) : b ≠ bm := by
  rintro rfl
  obtain ⟨es, clock, h1, -⟩ := h
  obtain ⟨C, n, m, h2, -⟩ := r
  rw [h1] at h2
  cases h2
theorem CountsAt.ne_cell {w : World} {bm b o : Nat} {M : List (Int × Nat)} (h : CountsAt w bm M) {v : Value} (r : w.cell? ⟨b, o, none⟩ = some v) : b ≠ bm := by
  rintro rfl
  obtain ⟨es, clock, h1, -⟩ := h
  simp [World.cell?, h1] at r
theorem RowAt.turned {w W : World} {bm b : Nat} {T : TypeId} {vs : List Value} (r : RowAt w b T vs) (h : w.mapTurned W bm) (hne : b ≠ bm) : RowAt W b T vs :=
  r.same (h.grown.block b r.lt (by simpa using hne))
theorem below_turned {w W : World} {bm B : Nat} (h : w.mapTurned W bm) (hB : B ≤ bm) : Below B w W := by
  have g := h.grown
  have hlt : bm < w.heap.size := by
    obtain ⟨es, clock, es', clock', h1, -⟩ := h
    exact (Array.getElem?_eq_some_iff.1 h1).1
  exact ⟨g.os, g.tape, g.output, g.size, fun k hk => g.block k (by omega) (by simp; omega)⟩
theorem find_insM {a : Int} {n : Nat} : ∀ M : List (Int × Nat), (∀ p ∈ M, p.1 ≠ a) → (insM (a, n) M).find? (fun p => decide (p.1 = a)) = some (a, n)
  | [], _ => by simp [insM]
  | y :: r, h => by
    unfold insM
    split
    · simp
    · rw [List.find?_cons_of_neg (by simpa using h y (by simp)), find_insM r fun p hp => h p (by simp [hp])]
theorem getM_putM (M : List (Int × Nat)) (a : Int) (n : Nat) : getM (putM M a n) a = n := by
  unfold getM putM
  rw [find_insM _ fun p hp => by simpa [delM] using (List.mem_filter.1 hp).2]
theorem length_insM (x : Int × Nat) : ∀ M : List (Int × Nat), (insM x M).length = M.length + 1
  | [] => rfl
  | y :: r => by
    unfold insM
    split
    · rfl
    · simp [length_insM x r]
theorem length_putM (M : List (Int × Nat)) (a : Int) (n : Nat) : (putM M a n).length ≤ M.length + 1 := by
  unfold putM
  rw [length_insM]
  have := List.length_filter_le (fun p : Int × Nat => !decide (p.1 = a)) M
  unfold delM
  omega
theorem delM_insM {a : Int} {n : Nat} : ∀ M : List (Int × Nat), delM (insM (a, n) M) a = delM M a
  | [] => by simp [insM, delM]
  | y :: r => by
    have ih := delM_insM (a := a) (n := n) r
    unfold insM
    split
    · simp [delM]
    · unfold delM at ih ⊢
      simp only [List.filter_cons, ih]
theorem delM_putM (M : List (Int × Nat)) (a : Int) (n : Nat) : delM (putM M a n) a = delM M a := by
  unfold putM
  rw [delM_insM]
  simp [delM]
end Go.Proofs.Ytnoemopaplopdaa
