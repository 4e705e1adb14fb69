/- A region that draws its order, in general: operations that read are taken first as long as the world is one that has only grown; operations that need no world are taken first always; the others are gone through in whatever order. No condition. -/
import Derived.Test.YtjhdgpboofcelaaDoorLast
namespace Go.Proofs.YtjhdgpboofcelaaDoor
open Go.RowKit
section
variable {P : Program} {ops : Array Oper} {Q : Exit → Act → World → Prop} {md : Region.Mode} {S S1 : World → Prop} {T : Nat → Bool}

/-- Waits j for i, through others too? -/
def waitsT (md : Region.Mode) (ops : Array Oper) : Nat → Nat → Nat → Bool
  | 0, _, _ => false
  | f + 1, j, i => match ops[j]? with
    | some oj => oj.after.any fun e => Region.binds md e && (e.on == i || waitsT md ops f e.on i)
    | none => false
theorem listed_of_waitsT {listed : Array Bool} (hcl : ClosedL md ops listed) : ∀ (f j i : Nat), waitsT md ops f j i = true → (listed.getD j false = true ∨ j ∈ Region.ready md ops listed) → listed.getD i false = true
  | 0, _, _, h, _ => by cases h
  | f + 1, j, i, h, hj => by
    unfold waitsT at h
    split at h
    · rename_i oj hoj
      obtain ⟨e, he, hb⟩ := Array.any_eq_true'.1 h
      simp only [Bool.and_eq_true, Bool.or_eq_true, beq_iff_eq] at hb
      have hl : listed.getD e.on false = true := by
        rcases hj with hj | hj
        · exact hcl j oj hoj hj e he hb.1
        · obtain ⟨_, o', ho', hall⟩ := mem_ready.1 hj
          obtain rfl := Option.some.inj (hoj.symm.trans ho')
          exact hall e he hb.1
      rcases hb.2 with rfl | h2
      · exact hl
      · exact listed_of_waitsT hcl f e.on i h2 (.inl hl)
    · cases h

/-- 'wpAny' that keeps in mind, behind each operation that is none of T, that the world is one of S if it was ahead. -/
def wpAnyT (P : Program) (md : Region.Mode) (ops : Array Oper) (Q : Exit → Act → World → Prop) (S : World → Prop) (T : Nat → Bool) : Nat → Array Bool → Act → World → Prop
  | 0, listed, a, w => Region.ready md ops listed = [] ∧ Q .normal a w
  | fuel + 1, listed, a, w =>
    (Region.ready md ops listed = [] → Q .normal a w) ∧
    ∀ i ∈ Region.ready md ops listed, wpOp P ops Q i (fun a' w' => (T i = true ∨ (S w → S w')) ∧ wpAnyT P md ops Q S T fuel (listed.setIfInBounds i true) a' w') a w
theorem wpAny_of_T : ∀ (fuel : Nat) (listed : Array Bool) (a : Act) (w : World), wpAnyT P md ops Q S T fuel listed a w → wpAny P md ops Q fuel listed a w
  | 0, _, _, _, h => h
  | fuel + 1, _, _, _, h => ⟨h.1, fun i hi => wpOp_mono (fun a' w' h' => wpAny_of_T fuel _ a' w' h'.2) (h.2 i hi)⟩
theorem wpAnyT_first {i : Nat} {oi : Oper} {v : Value} (hi : ops[i]? = some oi) (hsel : ∀ (j : Nat) (o : Oper) cs b, ops[j]? = some o → o.op ≠ .select cs b)
    (hQ : ∀ c a w, Q (.panic c) (a.put oi.dst v) w → Q (.panic c) a w)
    (hkeep : ∀ (listed : Array Bool) (j : Nat) (w w' : World), ClosedL md ops listed → j ∈ Region.ready md ops listed → listed.getD i false = false → S1 w → (T j = true ∨ (S w → S w')) → S1 w') :
    ∀ (fuel : Nat) (listed : Array Bool) (a : Act) (w : World), ClosedL md ops listed →
      (∀ j oj, ops[j]? = some oj → j ≠ i → listed.getD j true = false → (∀ e ∈ oj.after, Region.binds md e = true → e.on ≠ i) → oi.apart ops oj = true) →
      i ∈ Region.ready md ops listed → YieldsIf P ops S1 oi v a → S1 w →
      wpAnyT P md ops Q S T fuel (listed.setIfInBounds i true) (a.put oi.dst v) w → wpAnyT P md ops Q S T (fuel + 1) listed a w := by
  intro fuel
  induction fuel with
  | zero =>
    intro listed a w _ _ hr hy hS H
    refine ⟨fun h => (by rw [h] at hr; cases hr), fun j hj => ?_⟩
    by_cases hji : j = i
    · subst hji; exact hy.wpOp hi hS ⟨.inr id, H⟩
    · have := ready_mono hj hji
      rw [H.1] at this
      cases this
  | succ fuel ih =>
    intro listed a w hcl hfree hr hy hS H
    refine ⟨fun h => (by rw [h] at hr; cases hr), fun j hj => ?_⟩
    by_cases hji : j = i
    · subst hji; exact hy.wpOp hi hS ⟨.inr id, H⟩
    · have h1 := H.2 j (ready_mono hj hji)
      obtain ⟨hjun, oj, hoj, hall⟩ := mem_ready.1 hj
      have hnot : ∀ e ∈ oj.after, Region.binds md e = true → e.on ≠ i := fun e he hb heq => by
        have h1 := hall e he hb
        rw [heq, getD_unlisted (mem_ready.1 hr).1] at h1
        cases h1
      have h2 := wpOp_putIf hoj (hfree j oj hoj hji hjun hnot) (fun cs b => hsel i oi cs b hi) (fun cs b => hsel j oj cs b hoj) hQ hy h1
      have hfree' : ∀ k ok, ops[k]? = some ok → k ≠ i → (listed.setIfInBounds j true).getD k true = false →
          (∀ e ∈ ok.after, Region.binds md e = true → e.on ≠ i) → oi.apart ops ok = true := fun k ok hk hki hun hno => by
        refine hfree k ok hk hki ?_ hno
        by_cases hjk : j = k
        · subst hjk; exact hjun
        · rw [getD_set_ne true hjk] at hun; exact hun
      refine wpOp_mono (fun a' w' h3 => ?_) h2
      have hS' : S1 w' := hkeep listed j w w' hcl hj (getD_unlisted (mem_ready.1 hr).1) hS h3.2.1
      refine ⟨h3.2.1, ih (listed.setIfInBounds j true) a' w' (hcl.set hj) hfree' (ready_mono hr (Ne.symm hji)) h3.1 hS' ?_⟩
      rw [Array.setIfInBounds_comm _ _ hji]
      exact h3.2.2
/-- From operation k on, f are left of the head: each may come now, and is apart from all that doesn't wait for it; all of T wait for it. -/
def headFree (md : Region.Mode) (ops : Array Oper) (ts : List Nat) : Nat → Nat → Array Bool → Bool
  | 0, _, _ => true
  | f + 1, k, listed => (Region.ready md ops listed).contains k && Region.free md ops listed k && (ts.all fun t => waitsT md ops ops.size t k) && (match ops[k]? with | some o => readOp o.op | none => false) && headFree md ops ts f (k + 1) (listed.setIfInBounds k true)
theorem wpAnyT_lex {ts : List Nat} {g : Nat} (hs : Region.noSelect ops = true) (hQ : ∀ c a w d v, Q (.panic c) (a.put d v) w → Q (.panic c) a w) (w : World) (hS : S w) :
    ∀ (l : List Oper) (k : Nat) (listed : Array Bool) (a : Act), ClosedL md ops listed → (∀ j, j < l.length → l[j]? = ops[k + j]?) →
      headFree md ops ts l.length k listed = true → wpQuiet P ops S (fun a' => wpAnyT P md ops Q S (fun t => ts.contains t) g (listedFrom l.length k listed) a' w) l a → wpAnyT P md ops Q S (fun t => ts.contains t) (l.length + g) listed a w
  | [], _, listed, a, _, _, _, h => by simpa [listedFrom, wpQuiet] using h
  | o :: l, k, listed, a, hcl, hl, hB, h => by
    have h0 : ops[k]? = some o := by simpa using (hl 0 (by simp)).symm
    simp only [List.length_cons, headFree, Bool.and_eq_true] at hB
    obtain ⟨⟨⟨⟨hr, hf⟩, hkc⟩, hrd⟩, hB'⟩ := hB
    rw [h0] at hrd
    have hst : qOp P ops S k (wpQuiet P ops S (fun a' => wpAnyT P md ops Q S (fun t => ts.contains t) g (listedFrom l.length (k + 1) (listed.setIfInBounds k true)) a' w) l) a := by unfold qOp; simp only [h0]; exact h
    obtain ⟨v, hy, hK⟩ := yieldsIn_of_qOp h0 hst
    have hr' : k ∈ Region.ready md ops listed := by simpa using hr
    rw [List.length_cons, show l.length + 1 + g = (l.length + g) + 1 by omega]
    exact wpAnyT_first (S1 := S) h0 (Region.noSelect_spec hs) (fun c a w => hQ c a w _ _) (fun li j w w' hc hj hun hSw ht => ht.resolve_left (fun hT => by
        have h1 := List.all_eq_true.1 hkc j (by simpa using hT)
        rw [listed_of_waitsT hc _ _ _ h1 (.inr hj)] at hun
        cases hun) hSw) (l.length + g) listed a w hcl (Region.free_spec h0 hf) hr' (YieldsIn.read hy hrd) hS
      (wpAnyT_lex hs hQ w hS l (k + 1) _ _ (hcl.set hr') (fun j hj => by have := hl (j + 1) (by simpa using hj); simpa [Nat.add_assoc, Nat.add_comm 1 j] using this) hB' hK)
/-- What 'wpAnyT' needs of the listed ones, beside. -/
def wpAnyC (P : Program) (ops : Array Oper) (Q : Exit → Act → World → Prop) (S : World → Prop) (ts : List Nat) (fuel : Nat) (listed : Array Bool) (a : Act) (w : World) : Prop :=
  Region.noSelect ops = true → (∀ c a w d v, Q (.panic c) (a.put d v) w → Q (.panic c) a w) → ClosedL .any ops listed → wpAnyT P .any ops Q S (fun t => ts.contains t) fuel listed a w
/-- An operation that needs no world may always be taken first. -/
theorem wpAnyC_pure (i : Nat) {ts : List Nat} {fuel : Nat} {listed : Array Bool} {o : Oper} {a : Act} {w : World} (ho : ops[i]? = some o)
    (hB : ((Region.ready .any ops listed).contains i && Region.free .any ops listed i && readOp o.op) = true)
    (h : wpQuiet P ops (fun _ => True) (fun a' => wpAnyC P ops Q S ts fuel (listed.setIfInBounds i true) a' w) [o] a) : wpAnyC P ops Q S ts (fuel + 1) listed a w := by
  intro hs hQ hcl
  simp only [Bool.and_eq_true] at hB
  obtain ⟨⟨hr, hf⟩, hrd⟩ := hB
  have hst : qOp P ops (fun _ => True) i (fun a' => wpAnyC P ops Q S ts fuel (listed.setIfInBounds i true) a' w) a := by
    unfold qOp; simp only [ho]
    simpa [wpQuiet] using h
  obtain ⟨v, hy, hK⟩ := yieldsIn_of_qOp ho hst
  have hr' : i ∈ Region.ready .any ops listed := by simpa using hr
  exact wpAnyT_first (S1 := fun _ => True) ho (Region.noSelect_spec hs) (fun c a w => hQ c a w _ _) (fun _ _ _ _ _ _ _ _ _ => trivial) fuel listed a w hcl (Region.free_spec ho hf) hr' (YieldsIn.read hy hrd) trivial (hK hs hQ (hcl.set hr'))
theorem wpAnyC_pureL (i : Nat) {l : List Oper} {ts : List Nat} {fuel : Nat} {listed : Array Bool} {a : Act} {w : World}
    (hB : ((match l[i]? with | some o => readOp o.op | none => false) && (Region.ready .any l.toArray listed).contains i && Region.free .any l.toArray listed i) = true)
    (h : wpQuiet P l.toArray (fun _ => True) (fun a' => wpAnyC P l.toArray Q S ts fuel (listed.setIfInBounds i true) a' w) ((l.drop i).take 1) a) : wpAnyC P l.toArray Q S ts (fuel + 1) listed a w := by
  simp only [Bool.and_eq_true] at hB
  obtain ⟨⟨h1, h2⟩, h3⟩ := hB
  cases ho : l[i]? with
  | none => rw [ho] at h1; cases h1
  | some o =>
    rw [ho] at h1
    have e : (l.drop i).take 1 = [o] := by
      obtain ⟨hlt, rfl⟩ := List.getElem?_eq_some_iff.1 ho
      rw [List.drop_eq_getElem_cons hlt]
      rfl
    rw [e] at h
    exact wpAnyC_pure i (by simpa using ho) (by simp only [Bool.and_eq_true]; exact ⟨⟨h2, h3⟩, h1⟩) h
theorem wpAnyC_one (i : Nat) {ts : List Nat} {f : Nat} {listed : Array Bool} {o : Oper} {a : Act} {w : World} (ho : ops[i]? = some o) (hg : o.guard = none) (hr : (Region.ready .any ops listed == [i]) = true)
    (h : ∀ K : Act → World → Prop, (∀ a w, (ts.contains i = true ∨ S w) → wpAnyC P ops Q S ts f (listed.setIfInBounds i true) a w → K a w) → o.wp P a w K Q) : wpAnyC P ops Q S ts (f + 1) listed a w := by
  intro hs hQ hcl
  have hr' := eq_of_beq hr
  refine ⟨fun h0 => (by rw [hr'] at h0; cases h0), fun j hj => ?_⟩
  have hcl' := hcl.set hj
  rw [hr'] at hj
  obtain rfl : j = i := by simpa using hj
  exact wpOp_plain ho hg fun K hK => h K fun a w h1 h2 => hK a w ⟨h1.imp id (fun h _ => h), h2 hs hQ hcl'⟩
theorem wpAnyC_two (i k : Nat) {ts : List Nat} {f : Nat} {listed : Array Bool} {o o' : Oper} {a : Act} {w : World} (ho : ops[i]? = some o) (hg : o.guard = none) (ho' : ops[k]? = some o') (hg' : o'.guard = none) (hr : (Region.ready .any ops listed == [i, k]) = true)
    (h : ∀ K : Act → World → Prop, (∀ a w, (ts.contains i = true ∨ S w) → wpAnyC P ops Q S ts f (listed.setIfInBounds i true) a w → K a w) → o.wp P a w K Q)
    (h' : ∀ K : Act → World → Prop, (∀ a w, (ts.contains k = true ∨ S w) → wpAnyC P ops Q S ts f (listed.setIfInBounds k true) a w → K a w) → o'.wp P a w K Q) : wpAnyC P ops Q S ts (f + 1) listed a w := by
  intro hs hQ hcl
  have hr' := eq_of_beq hr
  refine ⟨fun h0 => (by rw [hr'] at h0; cases h0), fun j hj => ?_⟩
  have hcl' := hcl.set hj
  rw [hr'] at hj
  rcases (by simpa using hj : j = i ∨ j = k) with rfl | rfl
  · exact wpOp_plain ho hg fun K hK => h K fun a w h1 h2 => hK a w ⟨h1.imp id (fun h _ => h), h2 hs hQ hcl'⟩
  · exact wpOp_plain ho' hg' fun K hK => h' K fun a w h1 h2 => hK a w ⟨h1.imp id (fun h _ => h), h2 hs hQ hcl'⟩
theorem wpAnyC_end {ts : List Nat} {listed : Array Bool} {a : Act} {w : World} (hr : (Region.ready .any ops listed == []) = true) (h : Q .normal a w) : wpAnyC P ops (NoPanic Q) S ts 0 listed a w :=
  fun _ _ _ => ⟨eq_of_beq hr, h⟩
end
/-- The first n operations read; ts: those behind which the world need not be one that has only grown (each of them waits for all that read). -/
theorem wp_region_gr_free (n m : Nat) (ts : List Nat) {P : Program} {id : Nat} {Q : Exit → Act → World → Prop} {a : Act} {w : World} {l : List Oper} (hm : P.follows .mixedOrders = true)
    (hB : (Region.noSelect l.toArray && headFree .any l.toArray ts n 0 (Array.replicate l.length false) && decide (n + m = l.length)) = true)
    (h : wpQuiet P l.toArray (fun w' => ∃ g : Gr w, w' = g.world) (fun a' => ∀ g : Gr w, wpAnyC P l.toArray (NoPanic Q) (fun w' => ∃ g : Gr w, w' = g.world) ts m (listedFrom n 0 (Array.replicate l.length false)) a' g.world) (l.take n) a) : (Code.region id l.toArray true).wp P Q a w := by
  simp only [Bool.and_eq_true, decide_eq_true_eq] at hB
  obtain ⟨⟨h1, h2⟩, h5⟩ := hB
  have e1 : (l.take n).length = n := by simp; omega
  refine wp_region_noPanic ?_
  refine wp_region_any hm (wpAny_of_T (S := fun w' => ∃ g : Gr w, w' = g.world) (T := fun t => ts.contains t) _ _ _ _ ?_)
  obtain ⟨g, hg⟩ := Gr.of ((Below.refl w.heap.size w).drew)
  have hg' : ({ w with drawn := w.drawn + 1 } : World) = g.world := hg
  rw [hg']
  have hsz : l.toArray.size = (l.take n).length + m := by simp; omega
  have hrep : Array.replicate l.toArray.size false = Array.replicate l.length false := by simp
  rw [hrep, hsz]
  have hcl : ∀ (k j : Nat) (li : Array Bool), headFree .any l.toArray ts k j li = true → ClosedL .any l.toArray li → ClosedL .any l.toArray (listedFrom k j li) := by
    intro k
    induction k with
    | zero => intro j li _ h; exact h
    | succ k ih =>
      intro j li hB h
      simp only [headFree, Bool.and_eq_true] at hB
      exact ih _ _ hB.2 (h.set (by simpa using hB.1.1.1.1))
  refine wpAnyT_lex (ts := ts) h1 (fun _ _ _ _ _ h => h) g.world ⟨g, rfl⟩ (l.take n) 0 _ a ClosedL.start (fun j hj => by rw [e1] at hj; simp [List.getElem?_take, hj]) (by rw [e1]; exact h2) ?_
  refine wpQuiet_imp (fun a' ha => ?_) _ _ h
  rw [e1]
  exact ha g h1 (fun _ _ _ _ _ h => h) (hcl n 0 _ h2 ClosedL.start)
end Go.Proofs.YtjhdgpboofcelaaDoor
