/- A region that draws its order: n operations that read; behind these a chain of operations: those ahead of operation c may make memory; operation c waits for all of these, and from there on each may do what it likes. No condition. -/
import Derived.Test.YtjhdgpboofcelaaDoorTail2
import Derived.OrdersHeld
import Derived.Deep.RegionHeld3
namespace Go.Proofs.YtjhdgpboofcelaaDoor
open Go.RowKit
section
variable {P : Program} {ops : Array Oper} {Q : Exit → Act → World → Prop} {md : Region.Mode} {S : World → Prop}

/-- Of what has come up, all that it waits for has. -/
def ClosedL (md : Region.Mode) (ops : Array Oper) (listed : Array Bool) : Prop := ∀ j oj, ops[j]? = some oj → listed.getD j false = true → ∀ e ∈ oj.after, Region.binds md e = true → listed.getD e.on false = true
theorem ClosedL.set {i : Nat} {listed : Array Bool} (inv : ClosedL md ops listed) (hi : i ∈ Region.ready md ops listed) : ClosedL md ops (listed.setIfInBounds i true) := by
  obtain ⟨_, oi, hoi, hall⟩ := mem_ready.1 hi
  intro j oj hj hl e he hb
  by_cases hij : i = j
  · subst hij
    have : oj = oi := Option.some.inj (hj.symm.trans hoi)
    subst this
    exact getD_set_true (hall e he hb)
  · rw [getD_set_ne false hij] at hl
    exact getD_set_true (inv j oj hj hl e he hb)
theorem ClosedL.start {m : Nat} : ClosedL md ops (Array.replicate m false) := fun j oj _ hl => by rw [getD_replicate_false] at hl; cases hl
theorem reach_c {c : Nat} {listed : Array Bool} (hs : Region.sinkB md ops c = true) (hcl : ClosedL md ops listed) (hc : listed.getD c false = true ∨ c ∈ Region.ready md ops listed) :
    ∀ (d i : Nat), c - i = d → i < c → listed.getD i false = true := by
  intro d
  induction d using Nat.strongRecOn with
  | _ d ih =>
    intro i hd hi
    have h1 := List.all_eq_true.1 hs i (List.mem_range.2 hi)
    obtain ⟨j, hj, hj2⟩ := List.any_eq_true.1 h1
    simp only [Bool.and_eq_true, decide_eq_true_eq] at hj2
    obtain ⟨oj, hoj, e, he, hb, hon⟩ := Region.waitsFor_spec hj2.2
    have hjc := List.mem_range.1 hj
    by_cases hjt : j = c
    · subst hjt
      rcases hc with hc | hc
      · have := hcl j oj hoj hc e he hb; rwa [hon] at this
      · obtain ⟨_, ot, hot, hall⟩ := mem_ready.1 hc
        have : oj = ot := Option.some.inj (hoj.symm.trans hot)
        subst this
        have := hall e he hb; rwa [hon] at this
    · have hjl := ih (c - j) (by omega) j rfl (by omega)
      have := hcl j oj hoj hjl e he hb; rwa [hon] at this
theorem reach_t {c : Nat} {listed : Array Bool} (hch : Region.chainB md ops c = true) (hcl : ClosedL md ops listed) :
    ∀ t, c < t → (listed.getD t false = true ∧ t < ops.size ∨ t ∈ Region.ready md ops listed) → listed.getD c false = true := by
  intro t
  induction t with
  | zero => intro h; omega
  | succ t ih =>
    intro ht hr
    have hlt : t + 1 < ops.size := by
      rcases hr with ⟨_, h⟩ | h
      · exact h
      · obtain ⟨_, ot, hot, _⟩ := mem_ready.1 h
        exact (Array.getElem?_eq_some_iff.1 hot).1
    have h1 := List.all_eq_true.1 hch (t + 1) (List.mem_range.2 hlt)
    simp only [Bool.or_eq_true, decide_eq_true_eq] at h1
    rcases h1 with h1 | h1
    · omega
    · obtain ⟨o', ho', e, he, hb, hon⟩ := Region.waitsFor_spec h1
      have hl : listed.getD t false = true := by
        rcases hr with ⟨h, _⟩ | h
        · have := hcl _ o' ho' h e he hb; rwa [hon] at this
        · obtain ⟨_, ot, hot, hall⟩ := mem_ready.1 h
          have : o' = ot := Option.some.inj (ho'.symm.trans hot)
          subst this
          have := hall e he hb; rwa [hon] at this
      by_cases htc : t = c
      · rw [← htc]; exact hl
      · exact ih (by omega) (.inl ⟨hl, by omega⟩)
theorem reach {c i j : Nat} {listed : Array Bool} (hs : Region.sinkB md ops c = true) (hch : Region.chainB md ops c = true) (hcl : ClosedL md ops listed) (hj : j ∈ Region.ready md ops listed) (hcj : c ≤ j) (hi : i < c) : listed.getD i false = true := by
  by_cases h : j = c
  · subst h; exact reach_c hs hcl (.inr hj) _ i rfl hi
  · exact reach_c hs hcl (.inl (reach_t hch hcl j (by omega) (.inr hj))) _ i rfl hi

def wpAnyF (P : Program) (md : Region.Mode) (ops : Array Oper) (Q : Exit → Act → World → Prop) (S : World → Prop) (c : Nat) : Nat → Array Bool → Act → World → Prop
  | 0, listed, a, w => Region.ready md ops listed = [] ∧ Q .normal a w
  | fuel + 1, listed, a, w =>
    (Region.ready md ops listed = [] → Q .normal a w) ∧
    ∀ i ∈ Region.ready md ops listed, wpOp P ops Q i (fun a' w' => (c ≤ i ∨ S w') ∧ wpAnyF P md ops Q S c fuel (listed.setIfInBounds i true) a' w') a w
theorem wpAny_of_F {c : Nat} : ∀ (fuel : Nat) (listed : Array Bool) (a : Act) (w : World), wpAnyF P md ops Q S c fuel listed a w → wpAny P md ops Q fuel listed a w
  | 0, _, _, _, h => h
  | fuel + 1, _, _, _, h => ⟨h.1, fun i hi => wpOp_mono (fun a' w' h' => wpAny_of_F fuel _ a' w' h'.2) (h.2 i hi)⟩
theorem wpAnyF_first {c i : Nat} {oi : Oper} {v : Value} (hi : ops[i]? = some oi) (hsel : ∀ (j : Nat) (o : Oper) cs b, ops[j]? = some o → o.op ≠ .select cs b)
    (hQ : ∀ c a w, Q (.panic c) (a.put oi.dst v) w → Q (.panic c) a w) (hs : Region.sinkB md ops c = true) (hch : Region.chainB md ops c = true) (hic : i < c) :
    ∀ (fuel : Nat) (listed : Array Bool) (a : Act) (w : World), ClosedL md ops listed →
      (∀ j oj, ops[j]? = some oj → j ≠ i → listed.getD j true = false → (∀ e ∈ oj.after, Region.binds md e = true → e.on ≠ i) → oi.apart ops oj = true) →
      i ∈ Region.ready md ops listed → YieldsIf P ops S oi v a → S w →
      wpAnyF P md ops Q S c fuel (listed.setIfInBounds i true) (a.put oi.dst v) w → wpAnyF P md ops Q S c (fuel + 1) listed a w := by
  intro fuel
  induction fuel with
  | zero =>
    intro listed a w _ _ hr hy hS H
    refine ⟨fun h => (by rw [h] at hr; cases hr), fun j hj => ?_⟩
    by_cases hji : j = i
    · subst hji; exact hy.wpOp hi hS ⟨.inr hS, H⟩
    · have := ready_mono hj hji
      rw [H.1] at this
      cases this
  | succ fuel ih =>
    intro listed a w hcl hfree hr hy hS H
    refine ⟨fun h => (by rw [h] at hr; cases hr), fun j hj => ?_⟩
    by_cases hji : j = i
    · subst hji; exact hy.wpOp hi hS ⟨.inr hS, H⟩
    · have h1 := H.2 j (ready_mono hj hji)
      obtain ⟨hjun, oj, hoj, hall⟩ := mem_ready.1 hj
      have hnot : ∀ e ∈ oj.after, Region.binds md e = true → e.on ≠ i := fun e he hb heq => by
        have h1 := hall e he hb
        rw [heq, getD_unlisted (mem_ready.1 hr).1] at h1
        cases h1
      have hjc : ¬ c ≤ j := fun hjc => by
        have := reach hs hch hcl hj hjc hic
        rw [getD_unlisted (mem_ready.1 hr).1] at this
        cases this
      have h2 := wpOp_putIf hoj (hfree j oj hoj hji hjun hnot) (fun cs b => hsel i oi cs b hi) (fun cs b => hsel j oj cs b hoj) hQ hy h1
      have hfree' : ∀ k ok, ops[k]? = some ok → k ≠ i → (listed.setIfInBounds j true).getD k true = false →
          (∀ e ∈ ok.after, Region.binds md e = true → e.on ≠ i) → oi.apart ops ok = true := fun k ok hk hki hun hno => by
        refine hfree k ok hk hki ?_ hno
        by_cases hjk : j = k
        · subst hjk; exact hjun
        · rw [getD_set_ne true hjk] at hun; exact hun
      refine wpOp_mono (fun a' w' h3 => ?_) h2
      have hS' : S w' := h3.2.1.resolve_left hjc
      refine ⟨.inr hS', ih (listed.setIfInBounds j true) a' w' (hcl.set hj) hfree' (ready_mono hr (Ne.symm hji)) h3.1 hS' ?_⟩
      rw [Array.setIfInBounds_comm _ _ hji]
      exact h3.2.2
/-- What a computation hands back is a value, whatever the world. -/
def Vals (s : Sem Next) : Prop := ∀ P w n w', s.run P w = .ok n w' → ∃ v, n = .value v
theorem Vals.bind {α : Type} {s : Sem α} {f : α → Sem Next} (h : ∀ a, Vals (f a)) : Vals (s >>= f) := fun P w n w' hr => by
  have e : (s >>= f).run P w = (s.run P w).andThen fun a w' => (f a).run P w' := Sem.run_bind ..
  rw [e] at hr
  cases hs : s.run P w with
  | ok a w1 => rw [hs] at hr; exact h a P w1 n w' hr
  | halt x w1 => rw [hs] at hr; cases hr
theorem Vals.pure (v : Value) : Vals (Pure.pure (.value v)) := fun P w n w' hr => by
  have e : (Pure.pure (Next.value v) : Sem Next).run P w = .ok (.value v) w := rfl
  rw [e] at hr
  cases hr
  exact ⟨v, rfl⟩
/-- The operations that hand back a value and call nothing. -/
def readOp : Op → Bool
  | .move _ | .assign _ | .pick .. | .build .. | .load .. | .binOp .. | .unOp .. | .convert .. | .slice .. | .fieldAddr .. | .field .. | .indexAddr .. | .index .. | .lookup .. | .extract .. | .typeAssert .. | .makeInterface .. | .nilCheck _ => true
  | _ => false
theorem vals_of_read (ρ : Operand → Value) (o : Oper) (h : readOp o.op = true) : Vals (execOp ρ o) := by
  unfold execOp
  cases ho : o.op <;> rw [ho] at h <;> first | (cases h; done) | skip
  all_goals simp only []
  all_goals first | exact Vals.pure _ | exact Vals.bind fun _ => Vals.pure _ | skip
  have hp : Vals (runtimePanic .nilDeref) := fun P w n w' hr => by
    simp [runtimePanic, goPanic] at hr
  repeat' split
  all_goals first | exact hp | exact Vals.pure _ | skip
  refine Vals.bind fun _ => Vals.bind fun _ => ?_
  split
  · exact Vals.bind fun _ => Vals.pure _
  · exact Vals.pure _
theorem YieldsIn.read {o : Oper} {v : Value} {a : Act} (h : YieldsIn P ops S o v a) (ho : readOp o.op = true) : YieldsIf P ops S o v a := by
  rcases h with ⟨hw, h⟩ | h
  · refine .inl ⟨hw, fun w hS => ?_⟩
    have h1 := h w hS
    unfold Oper.quietAt at h1
    cases hr : (execOp a.eval o).run P w with
    | ok n w' =>
      obtain ⟨u, rfl⟩ := vals_of_read a.eval o ho P w n w' hr
      rw [hr] at h1
      obtain ⟨rfl, rfl⟩ := h1
      rfl
    | halt x w' => rw [hr] at h1; cases h1
  · exact .inr h
/-- From operation k on, f are left of the head: each may come now, and is apart from all that doesn't wait for it. -/
def headRead (md : Region.Mode) (ops : Array Oper) (c : Nat) : Nat → Nat → Array Bool → Bool
  | 0, _, _ => true
  | f + 1, k, listed => (Region.ready md ops listed).contains k && Region.free md ops listed k && decide (k < c) && (match ops[k]? with | some o => readOp o.op | none => false) && headRead md ops c f (k + 1) (listed.setIfInBounds k true)
theorem wpAnyF_lex {c g : Nat} (hs : Region.noSelect ops = true) (hsink : Region.sinkB md ops c = true) (hch : Region.chainB md ops c = true) (hQ : ∀ c a w d v, Q (.panic c) (a.put d v) w → Q (.panic c) a w) (w : World) (hS : S w) :
    ∀ (l : List Oper) (k : Nat) (listed : Array Bool) (a : Act), ClosedL md ops listed → (∀ j, j < l.length → l[j]? = ops[k + j]?) →
      headRead md ops c l.length k listed = true → wpQuiet P ops S (fun a' => wpAnyF P md ops Q S c g (listedFrom l.length k listed) a' w) l a → wpAnyF P md ops Q S c (l.length + g) listed a w
  | [], _, listed, a, _, _, _, h => by simpa [listedFrom, wpQuiet] using h
  | o :: l, k, listed, a, hcl, hl, hB, h => by
    have h0 : ops[k]? = some o := by simpa using (hl 0 (by simp)).symm
    simp only [List.length_cons, headRead, Bool.and_eq_true, decide_eq_true_eq] at hB
    obtain ⟨⟨⟨⟨hr, hf⟩, hkc⟩, hrd⟩, hB'⟩ := hB
    rw [h0] at hrd
    have hst : qOp P ops S k (wpQuiet P ops S (fun a' => wpAnyF P md ops Q S c g (listedFrom l.length (k + 1) (listed.setIfInBounds k true)) a' w) l) a := by unfold qOp; simp only [h0]; exact h
    obtain ⟨v, hy, hK⟩ := yieldsIn_of_qOp h0 hst
    have hr' : k ∈ Region.ready md ops listed := by simpa using hr
    rw [List.length_cons, show l.length + 1 + g = (l.length + g) + 1 by omega]
    exact wpAnyF_first h0 (Region.noSelect_spec hs) (fun c a w => hQ c a w _ _) hsink hch hkc (l.length + g) listed a w hcl (Region.free_spec h0 hf) hr' (YieldsIn.read hy hrd) hS
      (wpAnyF_lex hs hsink hch hQ w hS l (k + 1) _ _ (hcl.set hr') (fun j hj => by have := hl (j + 1) (by simpa using hj); simpa [Nat.add_assoc, Nat.add_comm 1 j] using this) hB' hK)
/-- A chain of operations: the world is one of the class behind each of the first s. -/
def wpChain (P : Program) (Q : Exit → Act → World → Prop) (S : World → Prop) : Nat → List Oper → Act → World → Prop
  | _, [], a, w => Q .normal a w
  | 0, o :: rest, a, w => ∀ K : Act → World → Prop, (∀ a w, wpChain P Q S 0 rest a w → K a w) → o.wp P a w K Q
  | s + 1, o :: rest, a, w => ∀ K : Act → World → Prop, (∀ a w, S w ∧ wpChain P Q S s rest a w → K a w) → o.wp P a w K Q
theorem wpChain_sound {c : Nat} : ∀ (l : List Oper) (s k : Nat) (listed : Array Bool) (a : Act) (w : World), (∀ j, j < l.length → l[j]? = ops[k + j]?) → c ≤ k + s → (l.all fun o => o.guard == none) = true →
      tailFrom md ops l.length k listed = true → wpChain P Q S s l a w → wpAnyF P md ops Q S c l.length listed a w
  | [], s, k, listed, a, w, _, _, _, hB, h => ⟨by simpa [tailFrom] using hB, by cases s <;> exact h⟩
  | o :: rest, s, k, listed, a, w, hl, hk, hg, hB, h => by
    have h0 : ops[k]? = some o := by simpa using (hl 0 (by simp)).symm
    rw [List.all_cons, Bool.and_eq_true] at hg
    rw [List.length_cons] at hB ⊢
    simp only [tailFrom, Bool.and_eq_true, beq_iff_eq] at hB
    obtain ⟨hr, hB'⟩ := hB
    refine ⟨fun h1 => (by rw [hr] at h1; cases h1), fun i hi => ?_⟩
    rw [hr] at hi
    obtain rfl : i = k := by simpa using hi
    have hl' : ∀ j, j < rest.length → rest[j]? = ops[i + 1 + j]? := fun j hj => by have := hl (j + 1) (by simpa using hj); simpa [Nat.add_assoc, Nat.add_comm 1 j] using this
    cases s with
    | zero => exact wpOp_plain h0 (by simpa using hg.1) fun K hK => h K fun a w hq => hK a w ⟨.inl (by omega), wpChain_sound rest 0 (i + 1) _ a w hl' (by omega) hg.2 hB' hq⟩
    | succ s => exact wpOp_plain h0 (by simpa using hg.1) fun K hK => h K fun a w hq => hK a w ⟨.inr hq.1, wpChain_sound rest s (i + 1) _ a w hl' (by omega) hg.2 hB' hq.2⟩
end
section
variable {P : Program} {Q : Exit → Act → World → Prop} {S : World → Prop} {o : Oper} {rest : List Oper} {a : Act} {w : World} {s : Nat}
theorem wpChain_cons (h : ∀ K : Act → World → Prop, (∀ a w, S w ∧ wpChain P Q S s rest a w → K a w) → o.wp P a w K Q) : wpChain P Q S (s + 1) (o :: rest) a w := h
theorem wpChain_free (h : ∀ K : Act → World → Prop, (∀ a w, wpChain P Q S 0 rest a w → K a w) → o.wp P a w K Q) : wpChain P Q S 0 (o :: rest) a w := h
theorem wpChain_end (h : Q .normal a w) : wpChain P (NoPanic Q) S 0 [] a w := h
end
theorem wpQuiet_imp {P : Program} {ops : Array Oper} {C : World → Prop} {Q Q' : Act → Prop} (hQ : ∀ a, Q a → Q' a) : ∀ (l : List Oper) (a : Act), wpQuiet P ops C Q l a → wpQuiet P ops C Q' l a
  | [], a, h => hQ a h
  | o :: rest, a, h => by
    unfold wpQuiet at h ⊢
    split
    · rename_i hw
      rw [if_pos hw] at h
      exact Oper.quiet_mono (fun a ha => wpQuiet_imp hQ rest a ha) h
    · rename_i hw
      rw [if_neg hw] at h
      exact wpQuiet_imp hQ rest _ h
/-- n operations that read; behind them a chain: the first s of it may make memory, the rest may do what it likes. -/
theorem wp_region_gr_chain (n s : Nat) {P : Program} {id : Nat} {Q : Exit → Act → World → Prop} {a : Act} {w : World} {l : List Oper} (hm : P.follows .mixedOrders = true) (hQ : ∀ c a w d v, Q (.panic c) (a.put d v) w → Q (.panic c) a w)
    (hB : (Region.noSelect l.toArray && headRead .any l.toArray (n + s) n 0 (Array.replicate l.length false) && tailFrom .any l.toArray (l.length - n) n (listedFrom n 0 (Array.replicate l.length false)) && ((l.drop n).all fun o => o.guard == none) && decide (n ≤ l.length) && Region.sinkB .any l.toArray (n + s) && Region.chainB .any l.toArray (n + s)) = true)
    (h : wpQuiet P l.toArray (fun w' => ∃ g : Gr w, w' = g.world) (fun a' => ∀ g : Gr w, wpChain P Q (fun w' => ∃ g : Gr w, w' = g.world) s (l.drop n) a' g.world) (l.take n) a) : (Code.region id l.toArray true).wp P Q a w := by
  simp only [Bool.and_eq_true, decide_eq_true_eq] at hB
  obtain ⟨⟨⟨⟨⟨⟨h1, h2⟩, h3⟩, h4⟩, h5⟩, h6⟩, h7⟩ := hB
  have e1 : (l.take n).length = n := by simp; omega
  have e2 : (l.drop n).length = l.length - n := by simp
  refine wp_region_any hm (wpAny_of_F (S := fun w' => ∃ g : Gr w, w' = g.world) (c := n + s) _ _ _ _ ?_)
  obtain ⟨g, hg⟩ := Gr.of ((Below.refl w.heap.size w).drew)
  have hg' : ({ w with drawn := w.drawn + 1 } : World) = g.world := hg
  rw [hg']
  have hsz : l.toArray.size = (l.take n).length + (l.drop n).length := by simp; omega
  have hrep : Array.replicate l.toArray.size false = Array.replicate l.length false := by simp
  rw [hrep, hsz]
  refine wpAnyF_lex h1 h6 h7 hQ g.world ⟨g, rfl⟩ (l.take n) 0 _ a ClosedL.start (fun j hj => by rw [e1] at hj; simp [List.getElem?_take, hj]) (by rw [e1]; exact h2) ?_
  refine wpQuiet_imp (fun a' ha => ?_) _ _ h
  exact wpChain_sound (l.drop n) s n _ a' g.world (fun j hj => by simp) (Nat.le_refl _) h4 (by rw [e1, e2]; exact h3) (ha g)
theorem wp_region_gr_chainN (n s : Nat) {P : Program} {id : Nat} {Q : Exit → Act → World → Prop} {a : Act} {w : World} {l : List Oper} (hm : P.follows .mixedOrders = true)
    (hB : (Region.noSelect l.toArray && headRead .any l.toArray (n + s) n 0 (Array.replicate l.length false) && tailFrom .any l.toArray (l.length - n) n (listedFrom n 0 (Array.replicate l.length false)) && ((l.drop n).all fun o => o.guard == none) && decide (n ≤ l.length) && Region.sinkB .any l.toArray (n + s) && Region.chainB .any l.toArray (n + s)) = true)
    (h : wpQuiet P l.toArray (fun w' => ∃ g : Gr w, w' = g.world) (fun a' => ∀ g : Gr w, wpChain P (NoPanic Q) (fun w' => ∃ g : Gr w, w' = g.world) s (l.drop n) a' g.world) (l.take n) a) : (Code.region id l.toArray true).wp P Q a w :=
  wp_region_noPanic (wp_region_gr_chain n s hm (fun _ _ _ _ _ h => h) hB h)
end Go.Proofs.YtjhdgpboofcelaaDoor
