/-
  Proves HistMerges: merging and lowering, when bounds agree and when not, as the document has them. No condition: every input.
-/
import Derived.Test.YtnoemopaplopdaaRows
import Derived.Test.YtnoemopaplopdaaN9
import Derived.WalkKit
import Derived.ProofKit
import Derived.OpenShut
import Derived.ShutString
import Derived.ChangeOld
import Derived.Below
import Derived.Lib.SmallJoins
namespace Go.Proofs.Ytnoemopaplopdaa.histMerges
open Go.ChangeShapes Go.WideShapes Go.ChangeAt Go.RowKit
open Go.ChangeMaps (open_string shut_string)
set_option linter.unusedVariables false

theorem own : ownKnob Try.prog.godebug = none := by kernel_rfl
theorem laidOut : laidOutB Try.prog = true := by kernel_rfl

/-- What the walk is told of a slice of integers that came in: it is nil; or it leads to a row of 'cap' cells, the numbers 'zs' (the first 'len' are its elements), each fitting its kind. -/
def IsRow (k : IntKind) (w : World) (a : Option Addr) (len cap : Nat) (zs : List Int) : Prop :=
  (a = none ∧ len = 0 ∧ cap = 0 ∧ zs = []) ∨
  ∃ x, a = some x ∧ len ≤ cap ∧ cap ≤ maxLen ∧ zs.length = cap ∧ (∀ i, i < zs.length → w.cell? (x.add i) = some (.int k (zs.getD i 0))) ∧ ∀ n ∈ zs, (Lit.int k n).wf = true

theorem walk (w : World) (f0 : Int) (a0 : Option Addr) (len0 cap0 : Nat) (L0 : List (Int × Nat)) (l0 : len0 ≤ cap0) (n0 : L0.length = min len0 300) (w0 : BinsAt w.heap.size w (.slice a0 L0.length cap0) L0) (f1 : Int) (a1 : Option Addr) (len1 cap1 : Nat) (L1 : List (Int × Nat)) (l1 : len1 ≤ cap1) (n1 : L1.length = min len1 300) (w1 : BinsAt w.heap.size w (.slice a1 L1.length cap1) L1) (a2 : Int) (w2 : (Lit.int .u64 a2).wf = true) (a3 : Int) (w3 : (Lit.int .u64 a3).wf = true) :
    Calls Try.prog 10 #[.agg #[.int .i64 f0, .slice a0 len0 cap0], .agg #[.int .i64 f1, .slice a1 len1 cap1], .int .u64 a2, .int .u64 a3] w fun e w' => e = .returned (.bool true) ∧ Below w.heap.size w w' := by
  have h2 := bounds_u64 w2
  have h3 := bounds_u64 w3
  obtain ⟨v, rfl⟩ := Int.eq_ofNat_of_zero_le (a := a2) (by omega)
  obtain ⟨n, rfl⟩ := Int.eq_ofNat_of_zero_le (a := a3) (by omega)
  exact merges_law f0 f1 v n a0 a1 len0 len1 cap0 cap1 L0 L1 w l0 l1 n0 n1 w0 w1 (by omega) (by omega)

set_option maxRecDepth 100000 in
theorem lifted (os : Os) (started : os.Started) (H : Type) (enc : TypeId × Value → H) :
    ReturnsInHanded {} Try.checked os 10 .any (Rows.histMergesSpec.pre6 enc Try.prog Try.f10 Rows.histMergesRow.domain false) (Rows.histMergesSpec.post enc Try.prog Try.f10 false true false false) := by
  refine returnsInHanded_of_change (C := Try.checked) own started (by kernel_rfl) Try.func10
    (ChangeSpec.witness6 (enc := enc) (C := Try.checked) false ⟨#[], #[.agg #[.int .i64 0, .slice none 0 0], .agg #[.int .i64 0, .slice none 0 0], .int .u64 0, .int .u64 0], []⟩ 8 (by kernel_rfl) (by kernel_rfl) (by kernel_rfl) (by kernel_rfl)) ?_
  intro W base args ds gs before hval0 hW hcnd _
  have hval : ∀ (j : Nat) t v, Try.f10.params[j]? = some t → args[j]? = some v → Value.okWide Try.prog W .any base t v := hval0
  have hW' := hW
  obtain ⟨p, q, hA0, hV, rfl, hfz, hnd⟩ := hW
  have hA : DataW.TrodAll enc Try.prog W 0 (fun _ => true) true Try.f10.params.toList args.toList ds p := hA0
  rw [Try.params10] at hA hval
  obtain ⟨v0, vs0, d0, ds0, p0, q0, hargs, rfl, rfl, h0, r0⟩ := trodAll_cons hA
  obtain ⟨v1, vs1, d1, ds1, p1, q1, rfl, rfl, rfl, h1, r1⟩ := trodAll_cons r0
  obtain ⟨v2, vs2, d2, ds2, p2, q2, rfl, rfl, rfl, h2, r2⟩ := trodAll_cons r1
  obtain ⟨v3, vs3, d3, ds3, p3, q3, rfl, rfl, rfl, h3, r3⟩ := trodAll_cons r2
  obtain ⟨rfl, rfl, rfl⟩ := trodAll_nil r3
  obtain rfl : args = #[v0, v1, v2, v3] := by cases args; simp_all
  obtain ⟨rfl, rfl⟩ := trodVars_none hV
  have k0 := h0
  have lt0 : ∀ x ∈ p0, x.block < W.heap.size := by obtain ⟨m, hm⟩ := k0; exact DataW.trod_lt m _ _ _ hm
  obtain ⟨f0, a0, len0, cap0, rfl, l0, L0, n0, w0⟩ : ∃ f p len cap, v0 = .agg #[.int .i64 f, .slice p len cap] ∧ len ≤ cap ∧ ∃ L : List (Int × Nat), L.length = min len 300 ∧ BinsAt W.heap.size W (.slice p L.length cap) L := by
    obtain ⟨u0, u1, y0, y1, n, rfl, -, -, t0, t1⟩ := Joins.open_agg2 Try.underlying25 (by kernel_rfl) (by kernel_rfl) (hval 0 25 v0 rfl rfl) h0
    obtain ⟨f, e0, -, -⟩ := DataW.trod_int Try.underlying3 t0
    obtain rfl := List.cons.inj e0 |>.1
    obtain ⟨p, len, cap, rfl, q⟩ := hist_few 300 (by decide) t1
    exact ⟨f, p, len, cap, rfl, q⟩
  have k1 := h1
  have lt1 : ∀ x ∈ p1, x.block < W.heap.size := by obtain ⟨m, hm⟩ := k1; exact DataW.trod_lt m _ _ _ hm
  obtain ⟨f1, a1, len1, cap1, rfl, l1, L1, n1, w1⟩ : ∃ f p len cap, v1 = .agg #[.int .i64 f, .slice p len cap] ∧ len ≤ cap ∧ ∃ L : List (Int × Nat), L.length = min len 300 ∧ BinsAt W.heap.size W (.slice p L.length cap) L := by
    obtain ⟨u0, u1, y0, y1, n, rfl, -, -, t0, t1⟩ := Joins.open_agg2 Try.underlying25 (by kernel_rfl) (by kernel_rfl) (hval 1 25 v1 rfl rfl) h1
    obtain ⟨f, e0, -, -⟩ := DataW.trod_int Try.underlying3 t0
    obtain rfl := List.cons.inj e0 |>.1
    obtain ⟨p, len, cap, rfl, q⟩ := hist_few 300 (by decide) t1
    exact ⟨f, p, len, cap, rfl, q⟩
  obtain ⟨a2, rfl, rfl, rfl, w2⟩ := open_int Try.underlying22 (hval 2 22 v2 rfl rfl) h2
  obtain ⟨a3, rfl, rfl, rfl, w3⟩ := open_int Try.underlying22 (hval 3 22 v3 rfl rfl) h3
  clear hA0 hval0
  refine (walk W f0 a0 len0 cap0 L0 l0 n0 w0 f1 a1 len1 cap1 L1 l1 n1 w1 a2 w2 a3 w3).mono fun e W' ⟨he, bel⟩ => ?_
  subst he
  exact ⟨_, rfl, _, _, _, [], _, [], hW', trodAll_mk1 (shut_bool Try.underlying4 _), (trodAll_cons_mk (Below.trod laidOut (by kernel_rfl) (of_decide_eq_true (by kernel_rfl)) k0 bel lt0) (trodAll_cons_mk (Below.trod laidOut (by kernel_rfl) (of_decide_eq_true (by kernel_rfl)) k1 bel lt1) (trodAll_cons_mk (shut_int Try.underlying22 w2) (trodAll_cons_mk (shut_int Try.underlying22 w3) trodAll_mk0)))), rfl, bel.frame _, fun h => by cases h⟩

theorem over : Rows.histMergesRow.holds Try.pinned (OpenSpec.ofChange Rows.histMergesSpec) :=
  OpenClaim.holds_of_wide 10 Try.f10 rfl rfl rfl rfl rfl rfl rfl ⟨rfl, rfl, rfl, rfl, rfl⟩ rfl rfl rfl rfl rfl (by kernel_rfl) Try.func10 (by kernel_rfl)
    (of_decide_eq_true (by kernel_rfl)) (by unfold Func.isWrapper; first | (rw [if_pos (by decide +kernel)]; kernel_rfl) | (rw [if_neg (by decide +kernel)]; exact ⟨rfl, rfl⟩))
    (fun os started H enc _ => lifted os started H enc)

/-- The statement. -/
theorem proved : Rows.HistMergesSaid := over
end Go.Proofs.Ytnoemopaplopdaa.histMerges
