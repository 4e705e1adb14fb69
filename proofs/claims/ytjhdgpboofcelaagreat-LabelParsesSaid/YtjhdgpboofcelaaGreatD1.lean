/- strings.NewReplacer; (*strings.Replacer).Replace. -/
import Derived.Test.YtjhdgpboofcelaaGreatC9
namespace Go.Proofs.YtjhdgpboofcelaaGreat
open Go.RowKit

/-- A replacer that is built, all its blocks below M. -/
def IsReplB (M : Nat) (w : World) (q : Nat) : Prop := ∃ b1 b2 tb k1 k2 : Nat, (q < M ∧ b1 < M ∧ b2 < M ∧ tb < M) ∧ ReplAt w q (.slice (some ⟨b1, 0, none⟩) 2 k1) (.slice (some ⟨b2, 0, none⟩) 2 k2) (.slice (some ⟨tb, 0, none⟩) 2 2) ∧
  RowAt w b1 5 (Lib.byteCells [92, 92]) ∧ RowAt w b2 5 (Lib.byteCells [92, 44]) ∧ RowAt w tb 9 [.string sE, .string sC]
theorem IsReplB.plain {M : Nat} {w : World} {q : Nat} (h : IsReplB M w q) : IsRepl w q := by
  obtain ⟨b1, b2, tb, k1, k2, -, h⟩ := h
  exact ⟨b1, b2, tb, k1, k2, h⟩
theorem IsRepl.bound {w : World} {q : Nat} (h : IsRepl w q) : IsReplB w.heap.size w q := by
  obtain ⟨b1, b2, tb, k1, k2, h1, h2, h3, h4⟩ := h
  exact ⟨b1, b2, tb, k1, k2, ⟨h1.lt, h2.lt, h3.lt, h4.lt⟩, h1, h2, h3, h4⟩
theorem IsReplB.same {M : Nat} {w w' : World} {q : Nat} (h : IsReplB M w q) (hk : ∀ k, k < M → k < w.heap.size → w'.heap[k]? = w.heap[k]?) : IsReplB M w' q := by
  obtain ⟨b1, b2, tb, k1, k2, ⟨m1, m2, m3, m4⟩, h1, h2, h3, h4⟩ := h
  exact ⟨b1, b2, tb, k1, k2, ⟨m1, m2, m3, m4⟩, h1.same (hk _ m1 h1.lt), h2.same (hk _ m2 h2.lt), h3.same (hk _ m3 h3.lt), h4.same (hk _ m4 h4.lt)⟩
/-- A replacer of commas and backslashes, not yet built. -/
def RepF (w : World) (r : Nat) : Prop := ∃ o c : Nat, RowR w r 0 0 .nilIface (.slice (some ⟨o, 0, none⟩) 4 c) ∧ RowAt w o 9 [.string sC, .string sEC, .string sE, .string sEE]
/-- .. built, all its blocks below M. -/
def RepD (M : Nat) (w : World) (r : Nat) : Prop := r < M ∧ ∃ q : Nat, RowR w r 1 0 (.iface 127 (.pointer (some ⟨q, 0, none⟩))) (.slice none 0 0) ∧ IsReplB M w q
theorem RepF.lt {w : World} {r : Nat} (h : RepF w r) : r < w.heap.size := by obtain ⟨o, c, h, -⟩ := h; exact RowAt.lt h
theorem RepD.lt {M : Nat} {w : World} {r : Nat} (h : RepD M w r) : r < w.heap.size := by obtain ⟨_, q, h, -⟩ := h; exact RowAt.lt h
theorem RepF.into {w w' : World} {r : Nat} (h : RepF w r) (hb : Below w.heap.size w w') : RepF w' r := by
  obtain ⟨o, c, h, h2⟩ := h
  exact ⟨o, c, RowAt.into h hb, h2.into hb⟩
theorem RepD.same {M : Nat} {w w' : World} {r : Nat} (h : RepD M w r) (hk : ∀ k, k < M → k < w.heap.size → w'.heap[k]? = w.heap[k]?) : RepD M w' r := by
  obtain ⟨h0, q, h, h2⟩ := h
  exact ⟨h0, q, RowAt.same h (hk r h0 (RowAt.lt h)), h2.same hk⟩
theorem RepD.into {M : Nat} {w w' : World} {r : Nat} (h : RepD M w r) (hb : Below w.heap.size w w') : RepD M w' r := h.same fun k _ hk => hb.block k hk

theorem method_replace (n : Nat) (a : Addr) (w : World) : (method (n + 1) 127 (.pointer (some a)) "Replace").run Tryz.prog w = .ok (135, .pointer (some a)) w := by kernel_rfl
set_option maxRecDepth 100000 in
set_option maxHeartbeats 800000 in
theorem replace_first (B r : Nat) (s : ByteArray) (w : World) (hr : RepF w r) (hs : s.size ≤ 1000000) (hB : B ≤ r) :
    Calls Tryz.prog 56 #[.pointer (some ⟨r, 0, none⟩), .string s] w fun e w' => e = .returned (.string ⟨(esc s.data.toList).toArray⟩) ∧ RepD w'.heap.size w' r ∧ But B r w w' := by
  have hmf : ∀ (fn : Fn) (first cap : Array Value) (w : World), (Instr.makeFunc fn first cap).run Tryz.prog w = .ok (.func fn first cap) w := fun _ _ _ _ => rfl
  have hmt : ∀ (a : Addr) (w : World), _ := method_replace 288
  simp only [Nat.reduceAdd] at hmt
  obtain ⟨o, c, hr, ho⟩ := hr
  obtain ⟨c0, c1, c3, c4, f0, f1, f3, f4, hl⟩ := hr.cells
  go_enter Tryz.func56, Tryz.ntmps56
  go_wp2_with (first
    | (go_at_call 64; refine (do_first B r o c _ hr ho hB).mono ?_; rintro e w' ⟨rfl, q, hr2, hq, hb2⟩; obtain ⟨d0, d1, d3, d4, g0, g1, g3, g4, dl⟩ := hr2.cells)
    | (go_at_call 135; refine (replaced_any q s _ hq hs).mono ?_; rintro e w2 ⟨rfl, hb3⟩))
  go_ret
  exact ⟨rfl, ⟨Nat.lt_of_lt_of_le dl hb3.size, q, RowAt.into hr2 hb3, (hq.into hb3).bound⟩, hb2.trans (But.of_below hb3 (by have := hb2.1.size; omega))⟩
set_option maxRecDepth 100000 in
set_option maxHeartbeats 800000 in
theorem replace_again (M r : Nat) (s : ByteArray) (w : World) (hr : RepD M w r) (hs : s.size ≤ 1000000) :
    Calls Tryz.prog 56 #[.pointer (some ⟨r, 0, none⟩), .string s] w fun e w' => e = .returned (.string ⟨(esc s.data.toList).toArray⟩) ∧ Below w.heap.size w w' := by
  have hmf : ∀ (fn : Fn) (first cap : Array Value) (w : World), (Instr.makeFunc fn first cap).run Tryz.prog w = .ok (.func fn first cap) w := fun _ _ _ _ => rfl
  have hmt : ∀ (a : Addr) (w : World), _ := method_replace 288
  simp only [Nat.reduceAdd] at hmt
  obtain ⟨-, q, hr, hq⟩ := hr
  obtain ⟨c0, c1, c3, c4, f0, f1, f3, f4, hl⟩ := hr.cells
  go_enter Tryz.func56, Tryz.ntmps56
  go_wp2_with (first
    | (go_at_call 64; refine (do_done r _ _ _ _ hr).mono ?_; rintro e w' ⟨rfl, rfl⟩)
    | (go_at_call 135; refine (replaced_any q s _ hq.plain hs).mono ?_; rintro e w2 ⟨rfl, hb3⟩))
  go_ret
  exact ⟨rfl, hb3⟩
end Go.Proofs.YtjhdgpboofcelaaGreat
