/-
  Proves HllMerges: what is merged, lowered, counted is what the document's text says. No condition: every input. (The tied card: the listed variables of unicode/utf8 are tied to the program's text; no walked way reads them.)
-/
import Derived.Test.YtngahohheleeeaaDoorRows
import Derived.Test.YtngahohheleeeaaDoorCards
import Derived.Test.YtngahohheleeeaaDoorTie
import Derived.LaidMore
import Derived.Lay
import Derived.SevenTiedAt
import Derived.Stop.Joined
import Derived.Test.YtngahohheleeeaaDoorO7
import Derived.WalkKit
import Derived.ProofKit
import Derived.OpenShut
import Derived.ShutString
import Derived.ChangeOld
import Derived.Below
import Derived.Lib.SmallJoins
namespace Go.Proofs.YtngahohheleeeaaDoor.hllMerges
open Go.ChangeShapes Go.WideShapes Go.ChangeAt Go.RowKit
open Go.ChangeMaps (open_string shut_string)
set_option linter.unusedVariables false

theorem own : ownKnob Tryd.prog.godebug = none := by kernel_rfl
theorem laidOut : laidOutB Tryd.prog = true := by kernel_rfl

/-- What the walk is told of a slice of integers that came in: it is nil; or it leads to a row of 'cap' cells, the numbers 'zs' (the first 'len' are its elements), each fitting its kind. -/
def IsRow (k : IntKind) (w : World) (a : Option Addr) (len cap : Nat) (zs : List Int) : Prop :=
  (a = none ∧ len = 0 ∧ cap = 0 ∧ zs = []) ∨
  ∃ x, a = some x ∧ len ≤ cap ∧ cap ≤ maxLen ∧ zs.length = cap ∧ (∀ i, i < zs.length → w.cell? (x.add i) = some (.int k (zs.getD i 0))) ∧ ∀ n ∈ zs, (Lit.int k n).wf = true

theorem walk (w : World) (s0_0 : Int) (s0_1 : ByteArray) (s1_0 : Int) (s1_1 : ByteArray) :
    Calls Tryd.prog 4 #[.agg #[.int .i64 s0_0, .string s0_1], .agg #[.int .i64 s1_0, .string s1_1]] w fun e w' => e = .returned (.bool true) ∧ Below w.heap.size w w' := by
  exact merges_all s0_0 s0_1 s1_0 s1_1 w

set_option maxRecDepth 100000 in
theorem lifted (os : Os) (started : os.Started) (H : Type) (enc : TypeId × Value → H) :
    ReturnsInHanded {} Tryd.checked os 4 .any (fun w args => (Rows.hllMergesSpec.pre enc Tryd.prog Tryd.f4 Rows.hllMergesRow.domain false w args ∧ laidMetH Tryd.prog Rows.hllMergesRow.laid w) ∧ sizedMet enc Tryd.prog Tryd.f4 (OpenSpec.ofChange Rows.hllMergesSpec) false w args)
      (Rows.hllMergesSpec.post enc Tryd.prog Tryd.f4 false true false false) := by
  refine returnsInHanded_of_change_and (C := Tryd.checked) (X := fun w _ => laidMetH Tryd.prog Rows.hllMergesRow.laid w) (fun _ _ _ hh h => h.of_heap hh) own started (by kernel_rfl) Tryd.func4
    (ChangeSpec.witness_shaped (enc := enc) (C := Tryd.checked) (os := os) (X := fun w _ => laidMetH Tryd.prog Rows.hllMergesRow.laid w) false (World.laidAll Tryd.prog os Rows.hllMergesRow.laid) #[.agg #[.int .i64 0, .string ⟨#[]⟩], .agg #[.int .i64 0, .string ⟨#[]⟩]] 8 (World.laidAll_os _ _ _)
      (World.shaped_of_ZipB (by kernel_rfl) (by kernel_rfl)) (by kernel_rfl) (by kernel_rfl) (by kernel_rfl)
      (by rw [MakeChecks.laidMetH_plain _ _ _ (by kernel_rfl)]; exact laidMet_laidAll _ (by kernel_rfl) (by kernel_rfl))) ?_
  intro W base args ds gs before hval0 hW hcnd _ hL _
  have hval : ∀ (j : Nat) t v, Tryd.f4.params[j]? = some t → args[j]? = some v → Value.okWide Tryd.prog W .any base t v := hval0
  have hW' := hW
  obtain ⟨p, q, hA0, hV, rfl, hfz, hnd⟩ := hW
  have hA : DataW.TrodAll enc Tryd.prog W 0 (fun _ => true) true Tryd.f4.params.toList args.toList ds p := hA0
  rw [Tryd.params4] at hA hval
  obtain ⟨v0, vs0, d0, ds0, p0, q0, hargs, rfl, rfl, h0, r0⟩ := trodAll_cons hA
  obtain ⟨v1, vs1, d1, ds1, p1, q1, rfl, rfl, rfl, h1, r1⟩ := trodAll_cons r0
  obtain ⟨rfl, rfl, rfl⟩ := trodAll_nil r1
  obtain rfl : args = #[v0, v1] := by cases args; simp_all
  obtain ⟨rfl, rfl⟩ := trodVars_none hV
  have k0 := h0
  have lt0 : ∀ x ∈ p0, x.block < W.heap.size := by obtain ⟨m, hm⟩ := k0; exact DataW.trod_lt m _ _ _ hm
  obtain ⟨s0_0, s0_1, rfl⟩ : ∃ (s0_0 : Int) (s0_1 : ByteArray), v0 = .agg #[.int .i64 s0_0, .string s0_1] := by
    obtain ⟨u0, u1, y0, y1, n, rfl, -, -, t0, t1⟩ := Joins.open_agg2 Tryd.underlying26 (by kernel_rfl) (by kernel_rfl) (hval 0 26 v0 rfl rfl) h0
    obtain ⟨x0, e0, -, -⟩ := DataW.trod_int Tryd.underlying3 t0
    obtain rfl := List.cons.inj e0 |>.1
    obtain ⟨x1, e1, -, -⟩ := DataW.trod_string Tryd.underlying9 t1
    obtain rfl := List.cons.inj e1 |>.1
    exact ⟨_, _, rfl⟩
  have k1 := h1
  have lt1 : ∀ x ∈ p1, x.block < W.heap.size := by obtain ⟨m, hm⟩ := k1; exact DataW.trod_lt m _ _ _ hm
  obtain ⟨s1_0, s1_1, rfl⟩ : ∃ (s1_0 : Int) (s1_1 : ByteArray), v1 = .agg #[.int .i64 s1_0, .string s1_1] := by
    obtain ⟨u0, u1, y0, y1, n, rfl, -, -, t0, t1⟩ := Joins.open_agg2 Tryd.underlying26 (by kernel_rfl) (by kernel_rfl) (hval 1 26 v1 rfl rfl) h1
    obtain ⟨x0, e0, -, -⟩ := DataW.trod_int Tryd.underlying3 t0
    obtain rfl := List.cons.inj e0 |>.1
    obtain ⟨x1, e1, -, -⟩ := DataW.trod_string Tryd.underlying9 t1
    obtain rfl := List.cons.inj e1 |>.1
    exact ⟨_, _, rfl⟩
  clear hA0 hval0
  refine (walk W s0_0 s0_1 s1_0 s1_1).mono fun e W' ⟨he, bel⟩ => ?_
  subst he
  exact ⟨_, rfl, _, _, _, [], _, [], hW', trodAll_mk1 (shut_bool Tryd.underlying4 _), (trodAll_cons_mk (Below.trod laidOut (by kernel_rfl) (of_decide_eq_true (by kernel_rfl)) k0 bel lt0) (trodAll_cons_mk (Below.trod laidOut (by kernel_rfl) (of_decide_eq_true (by kernel_rfl)) k1 bel lt1) trodAll_mk0)), rfl, bel.frame _, fun h => by cases h⟩

theorem over : Rows.hllMergesRow.holds Tryd.pinned (OpenSpec.ofChange Rows.hllMergesSpec) :=
  OpenClaim.holds_of_wide 4 Tryd.f4 rfl rfl rfl rfl rfl rfl rfl ⟨rfl, rfl, rfl, rfl, rfl⟩ rfl rfl rfl rfl rfl (by kernel_rfl) Tryd.func4 (by kernel_rfl)
    (of_decide_eq_true (by kernel_rfl)) (by unfold Func.isWrapper; first | (rw [if_pos (by decide +kernel)]; kernel_rfl) | (rw [if_neg (by decide +kernel)]; exact ⟨rfl, rfl⟩))
    (fun os started H enc _ => lifted os started H enc)

/-- The statement: the tied card. -/
theorem proved : Rows.HllMergesCardSaid :=
  Claim7.holds_tied_plain_at .later [] Rows.hllMergesCard.laidKinds true Rows.hllMergesCard.stood.harness Rows.hllMergesCard.stood.looks
    over (fun _ h => by cases h) (by kernel_rfl) (fun _ h => by cases h) hllMerges_row_tie rfl ⟨rfl, rfl⟩ (by kernel_rfl) rfl
    (fun f fn hf hfn => by
      obtain rfl : f = 4 := Option.some.inj ((show Tryd.prog.funcNamed "aviary/aviarylaw07.HllMerges" = some 4 by kernel_rfl).symm.trans hf) |>.symm
      obtain rfl : fn = Tryd.f4 := (Option.some.inj (Tryd.func4.symm.trans hfn)).symm
      exact ⟨by kernel_rfl, fun j t ht => by
        rw [Tryd.params4] at ht
        have hm : t ∈ [26, 26] := by simpa using Array.mem_of_getElem? ht
        have hall : ([26, 26].all fun u => !Tryd.prog.wantsStandIn u) = true := by kernel_rfl
        exact (show Tryd.prog.wantsStandIn t = false by simpa using List.all_eq_true.1 hall t hm)⟩)
    (by kernel_rfl)
end Go.Proofs.YtngahohheleeeaaDoor.hllMerges
