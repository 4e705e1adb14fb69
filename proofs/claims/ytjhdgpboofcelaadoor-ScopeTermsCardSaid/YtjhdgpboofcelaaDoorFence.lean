/- XTail's law inside a fence that lets every function by (a range over a function: its rounds, and the iterator that calls yield). No condition. -/
import Derived.Test.YtjhdgpboofcelaaDoorTail
import Derived.RangeFuncNested
import Derived.RangeFuncBound
import Derived.RangeFuncCalls
import Derived.RangeFuncLeaves
import Derived.OwnWalkIn
import Derived.TacticsInMore
import Derived.LoopNIn
import Derived.LoopIn
namespace Go.Proofs.YtjhdgpboofcelaaDoor
open Go.RowKit

/-- A fence that lets every function by. -/
structure Free (F : Fence) : Prop where
  fn : ∀ f, F.fn f
  depth : F.depth = none
  calls : ∀ {n : Nat} {P : Program} {f : FuncId} {args : Array Value} {w : World} {R : Ending → World → Prop}, Calls P f args w R → CallsIn F n P f args w R
theorem free_wide : Free Fence.wide := ⟨fun _ => trivial, rfl, fun h => callsIn_wide.2 h⟩
theorem free_round (l : Nat) : Free (Fence.wide.inRound l) := ⟨fun _ => trivial, rfl, fun h => CallsIn.inRound l (callsIn_wide.2 h)⟩
theorem Free.room {F : Fence} (h : Free F) {n : Nat} : (F.depth.isSome = true → 1 ≤ n) := fun h' => by rw [h.depth] at h'; cases h'

section
variable {F : Fence} {n : Nat} {P : Program} {ops : Array Oper} {C : World → Prop} {md : Region.Mode}
def noDefer (ops : Array Oper) : Bool := ops.all fun o => match o.op with | .defer _ => false | _ => true
theorem noDefer_spec (h : noDefer ops = true) {i : Nat} {o : Oper} (hi : ops[i]? = some o) : ∀ c, o.op ≠ .defer c := by
  intro c hc
  have h1 := Array.all_eq_true'.1 h o (Array.mem_of_getElem? hi)
  rw [hc] at h1
  cases h1
theorem Oper.semAt_of (ro : Option Nat) (ρ : Operand → Value) (o : Oper) (h : ∀ c, o.op ≠ .defer c) : Oper.semAt ro ρ o = execOp ρ o := Oper.semAt_eq ro ρ o h

theorem Oper.wpIn_of_quiet (hF : Free F) {o : Oper} (hd : ∀ c, o.op ≠ .defer c) {a : Act} {K : Act → Prop} {K' : Act → World → Prop} {Q' : Exit → Act → World → Prop} {w : World} (hw : C w) (h : ∀ a w', C w' → K a → K' a w') (hh : o.quiet P a C K) : o.wpIn F n P a w K' Q' := by
  obtain ⟨v, h1, h2⟩ := hh
  have h3 := h1 w hw
  unfold Oper.quietAt at h3
  unfold Oper.wpIn
  refine ⟨fun f _ => hF.fn f, ?_⟩
  rw [Oper.semAt_of _ _ _ hd]
  generalize (execOp a.eval o).run P w = r at *
  cases r with
  | ok n w' =>
    cases n <;> simp only [Oper.quietUpon] at h3 <;> simp only [Oper.uponIn]
    case value u =>
      obtain ⟨e1, e2⟩ := h3
      rw [e1, e2]
      exact h _ _ hw h2
    case skip =>
      obtain ⟨e1, e2⟩ := h3
      rw [e1, ← e2]
      exact h _ _ hw h2
    case enter f args =>
      obtain ⟨e1, hc⟩ := h3
      rw [e1]
      refine ⟨hF.room, (hF.calls hc).mono fun e w'' ⟨he, hw''⟩ => ?_⟩
      subst he
      exact h _ _ hw'' h2
  | halt x w' => simp only [Oper.quietUpon] at h3
theorem wpOpIn_of_qOp (hF : Free F) (hnd : noDefer ops = true) {i : Nat} {a : Act} {K : Act → Prop} {K' : Act → World → Prop} {Q' : Exit → Act → World → Prop} {w : World} (hC : C w) (h : ∀ a w', C w' → K a → K' a w') (hh : qOp P ops C i K a) : wpOpIn F n P ops Q' i K' a w := by
  unfold qOp at hh
  unfold wpOpIn
  split
  · rename_i ho; simp only [ho] at hh; exact h _ _ hC hh
  · rename_i o ho
    simp only [ho] at hh
    split
    · rename_i hw; simp only [hw, if_true] at hh; exact Oper.wpIn_of_quiet hF (noDefer_spec hnd ho) hC h hh
    · rename_i hw; simp only [hw] at hh; exact ⟨fun f _ => hF.fn f, h _ _ hC hh⟩
theorem wpAnyIn_of_wpHead (hF : Free F) (hnd : noDefer ops = true) {m g : Nat} {L : Array Bool → Act → Prop} {Q : Exit → Act → World → Prop} (hL : ∀ listed a, L listed a → ∀ w, C w → wpAnyIn F n P md ops Q g listed a w) :
    ∀ (f : Nat) (listed : Array Bool) (a : Act) (w : World), C w → wpHead P md ops C m L f listed a → wpAnyIn F n P md ops Q (f + g) listed a w
  | 0, listed, a, w, hw, h => by rw [Nat.zero_add]; exact hL _ _ h.2 w hw
  | f + 1, listed, a, w, hw, h => by
    rw [show f + 1 + g = (f + g) + 1 by omega]
    exact ⟨fun h0 => absurd h0 h.1, fun i hi => wpOpIn_of_qOp hF hnd hw (fun a' w' hw' h' => wpAnyIn_of_wpHead hF hnd hL f _ a' w' hw' h') (h.2 i hi).2⟩
theorem wpAnyIn_tail {Q : Exit → Act → World → Prop} : ∀ (l : List Oper) (k : Nat) (listed : Array Bool) (a : Act) (w : World), (∀ j, l[j]? = ops[k + j]?) →
      tailFrom md ops l.length k listed = true → wpListIn F n P ops Q l a w → wpAnyIn F n P md ops Q l.length listed a w
  | [], _, listed, _, _, _, hB, h => ⟨by simpa [tailFrom] using hB, h⟩
  | o :: l, k, listed, a, w, hl, hB, h => by
    have h0 : ops[k]? = some o := by simpa using (hl 0).symm
    simp only [List.length_cons, tailFrom, Bool.and_eq_true, beq_iff_eq] at hB
    obtain ⟨hr, hB'⟩ := hB
    have ih := fun a w => wpAnyIn_tail (Q := Q) l (k + 1) (listed.setIfInBounds k true) a w (fun j => by have := hl (j + 1); simpa [Nat.add_assoc, Nat.add_comm 1 j] using this) hB'
    refine ⟨fun h1 => (by rw [hr] at h1; cases h1), fun i hi => ?_⟩
    rw [hr] at hi
    obtain rfl : i = k := by simpa using hi
    unfold wpOpIn
    simp only [h0]
    unfold wpListIn at h
    split
    · rename_i hw
      rw [if_pos hw] at h
      exact Oper.wpIn_mono (fun a w hh => ih a w hh) h
    · rename_i hw
      rw [if_neg hw] at h
      exact ⟨h.1, ih _ _ h.2⟩
theorem wpIn_region_head (hF : Free F) {id m g : Nat} {Q : Exit → Act → World → Prop} {a : Act} {w : World} {l t : List Oper} (hm : P.follows .mixedOrders = true) (hC : C { w with drawn := w.drawn + 1 })
    (hln : l.length = m) (htg : t.length = g)
    (hB : (noDefer (l ++ t).toArray && Region.noSelect (l ++ t).toArray && tailWaits .any (l ++ t).toArray m && headFrom .any (l ++ t).toArray m m 0 (Array.replicate (m + g) false)
      && tailFrom .any (l ++ t).toArray g m (listedFrom m 0 (Array.replicate (m + g) false))) = true)
    (h : wpQuiet P (l ++ t).toArray C (fun a' => ∀ w', C w' → wpListIn F n P (l ++ t).toArray Q t a' w') l a) : (Code.region id (l ++ t).toArray true).wpIn F n P Q a w := by
  simp only [Bool.and_eq_true] at hB
  obtain ⟨⟨⟨⟨h0, h1⟩, h2⟩, h3⟩, h4⟩ := hB
  subst hln htg
  refine wpIn_region_any hm ?_
  have hsz : (l ++ t).toArray.size = l.length + t.length := by simp
  rw [hsz]
  refine wpAnyIn_of_wpHead (C := C) (m := l.length) hF h0 (L := fun listed a' => listed = listedFrom l.length 0 (Array.replicate (l.length + t.length) false) ∧ ∀ w', C w' → wpListIn F n P (l ++ t).toArray Q t a' w') ?_ l.length _ a _ hC ?_
  · rintro listed a' ⟨rfl, hh⟩ w' hw'
    refine wpAnyIn_tail t l.length _ a' w' (fun j => ?_) h4 (hh w' hw')
    rw [List.getElem?_toArray, List.getElem?_append_right (by omega), Nat.add_sub_cancel_left]
  · refine wpHead_lex h2 h1 l 0 _ a (by rw [← hsz]; exact inv_start) (fun j hj => ?_) h3 ?_
    · simp [List.getElem?_append, hj]
    · have e : (fun a' => listedFrom l.length 0 (Array.replicate (l.length + t.length) false) = listedFrom l.length 0 (Array.replicate (l.length + t.length) false) ∧ ∀ w', C w' → wpListIn F n P (l ++ t).toArray Q t a' w')
          = fun a' => ∀ w', C w' → wpListIn F n P (l ++ t).toArray Q t a' w' := by
        funext a'
        simp
      simpa [e] using h
end
/-- m: how many operations ahead of the tail. -/
theorem wpIn_region_gr_tail (m : Nat) {F : Fence} (hF : Free F) {n : Nat} {P : Program} {id : Nat} {Q : Exit → Act → World → Prop} {a : Act} {w : World} {l : List Oper} (hm : P.follows .mixedOrders = true)
    (hB : (noDefer l.toArray && Region.noSelect l.toArray && tailWaits .any l.toArray m && headFrom .any l.toArray m m 0 (Array.replicate l.length false)
      && tailFrom .any l.toArray (l.length - m) m (listedFrom m 0 (Array.replicate l.length false)) && decide (m ≤ l.length)) = true)
    (h : wpQuiet P l.toArray (fun w' => ∃ g : Gr w, w' = g.world) (fun a' => ∀ g : Gr w, wpListIn F n P l.toArray Q (l.drop m) a' g.world) (l.take m) a) : (Code.region id l.toArray true).wpIn F n P Q a w := by
  simp only [Bool.and_eq_true, decide_eq_true_eq] at hB
  obtain ⟨hB, hn⟩ := hB
  have e1 : (l.take m).length = m := by simp; omega
  have e2 : (l.drop m).length = l.length - m := by simp
  have e3 : l.take m ++ l.drop m = l := List.take_append_drop m l
  have e4 : m + (l.length - m) = l.length := by omega
  have := wpIn_region_head (F := F) (n := n) (P := P) (id := id) (m := m) (g := l.length - m) (Q := Q) (a := a) (w := w) (l := l.take m) (t := l.drop m) (C := fun w' => ∃ g : Gr w, w' = g.world) hF hm (Gr.of ((Below.refl _ w).drew)) e1 e2
    (by rw [e3, e4]; simpa using hB)
    (by
      rw [e3]
      have e : (fun a' => ∀ w', (∃ g : Gr w, w' = g.world) → wpListIn F n P l.toArray Q (l.drop m) a' w') = (fun a' => ∀ g : Gr w, wpListIn F n P l.toArray Q (l.drop m) a' g.world) := by
        funext a'
        exact propext ⟨fun h g => h _ ⟨g, rfl⟩, fun h w' ⟨g, hg⟩ => hg ▸ h g⟩
      rw [e]; exact h)
  rw [e3] at this
  exact this
theorem calls_of_marks {P : Program} {f : FuncId} {fn : Func} {c : Code} {args : Array Value} {w : World} {R : Ending → World → Prop} (hf : P.funcs[f]? = some fn) (hb : fn.body = some c)
    (h : c.wp P (bodyPostM Fence.wide 9 P fn R) { tmps := args ++ Array.replicate (fn.ntmps - args.size) undef, defers := [] } w) : Calls P f args w R :=
  callsIn_wide.1 (callsIn_of_wp_marks hf hb trivial (wpIn_wide.2 h))
theorem bodyPostM_ret {P : Program} {fn : Func} {R : Ending → World → Prop} {a : Act} {w : World} {v : Value}
    (hr : (results fn a.tmps).run P w = .ok v w) (hd : a.defers = []) (hR : R (.returned v) w) : bodyPostM Fence.wide 9 P fn R .ret a w := by
  show LeavesInM Fence.wide 9 P fn a.tmps R a.defers .returning w
  rw [hd]
  exact ⟨v, hr, hR⟩
/-- Behind a range over a function: the block for the rounds' deferred calls holds none. -/
theorem bodyPostM_ret1 {P : Program} {fn : Func} {R : Ending → World → Prop} {a : Act} {w : World} {v : Value} {D : Nat} (hK : w.heap[D]? = some (.deferred (some [])))
    (hr : (results fn a.tmps).run P (w.putObj D (.deferred none)) = .ok v (w.putObj D (.deferred none))) (hd : a.defers = [{ target := .collected D, args := #[] }]) (hR : R (.returned v) (w.putObj D (.deferred none))) : bodyPostM Fence.wide 9 P fn R .ret a w := by
  show LeavesInM Fence.wide 9 P fn a.tmps R a.defers .returning w
  rw [hd]
  refine ⟨by simp, .inl ⟨_, _, rfl, run_takeDeferred hK, ?_⟩⟩
  exact ⟨v, hr, hR⟩
theorem bodyPostM_named {P : Program} {fn : Func} {R : Ending → World → Prop} {e : Exit} {a : Act} {w : World} (h : ∀ X, X = w → bodyPostM Fence.wide 9 P fn R e a X) : bodyPostM Fence.wide 9 P fn R e a w := h w rfl
theorem RowAt.putObj {w : World} {b D : Nat} {T : TypeId} {vs : List Value} (h : RowAt w b T vs) (o : Obj) (hD : b ≠ D) : RowAt (w.putObj D o) b T vs := h.same (World.putObj_heap_other hD)
theorem below_putObj {w X : World} (h : Below w.heap.size w X) {D : Nat} {o o' : Obj} (hK : X.heap[D]? = some o) (hD : w.heap.size ≤ D) : Below w.heap.size w (X.putObj D o') :=
  h.grown (grownBy_putObj' X D o') (by have := (Array.getElem?_eq_some_iff.1 hK).1; omega) (fun k e => by cases e; omega)
theorem RowAt.grown {w w' : World} {b : Nat} {T : TypeId} {vs : List Value} {row : Option Nat} (h : RowAt w b T vs) (hg : w.grownBy w' row) (hr : ∀ r, row = some r → ∃ o : Obj, w.heap[r]? = some o ∧ o.isCells = false) : RowAt w' b T vs := by
  refine h.same (hg.block b h.lt fun e => ?_)
  obtain ⟨o, ho, hc⟩ := hr b e.symm
  obtain ⟨C, n, m, h1, _⟩ := h
  rw [h1] at ho
  cases ho
  cases hc
end Go.Proofs.YtjhdgpboofcelaaDoor
