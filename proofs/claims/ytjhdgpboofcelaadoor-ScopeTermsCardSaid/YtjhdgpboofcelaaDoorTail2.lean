/- As XTail, but what stands behind the first n need not be one chain: each waits for operation n - 1, and the orders of these are gone through one by one. No condition. -/
import Derived.Test.YtjhdgpboofcelaaDoorTail
namespace Go.Proofs.YtjhdgpboofcelaaDoor
open Go.RowKit
section
variable {P : Program} {ops : Array Oper} {C : World → Prop} {md : Region.Mode}

def looseWaits (md : Region.Mode) (ops : Array Oper) (n : Nat) : Bool :=
  ((List.range n).all fun i => decide (i + 1 = n) || (List.range n).any fun j => decide (i < j) && Region.waitsFor md ops j i) &&
  (List.range ops.size).all fun t => decide (t < n) || (List.range t).any fun j => decide (n ≤ j + 1) && Region.waitsFor md ops t j
theorem last_unlisted {n : Nat} {listed : Array Bool} (hs : ((List.range n).all fun i => decide (i + 1 = n) || (List.range n).any fun j => decide (i < j) && Region.waitsFor md ops j i) = true) (hn : n ≤ ops.size) (inv : HeadInv md ops n listed) :
    ∀ (d i : Nat), n - i = d → i < n → listed.getD i true = false → listed.getD (n - 1) true = false := by
  intro d
  induction d using Nat.strongRecOn with
  | _ d ih =>
    intro i hd hi hun
    by_cases hl : i + 1 = n
    · rwa [show n - 1 = i by omega]
    · have h1 := List.all_eq_true.1 hs i (List.mem_range.2 hi)
      simp only [Bool.or_eq_true, decide_eq_true_eq] at h1
      rcases h1 with h1 | h1
      · exact absurd h1 hl
      · obtain ⟨j, hj, hj2⟩ := List.any_eq_true.1 h1
        simp only [Bool.and_eq_true, decide_eq_true_eq] at hj2
        have hjn := List.mem_range.1 hj
        obtain ⟨oj, hoj, e, he, hb, hon⟩ := Region.waitsFor_spec hj2.2
        cases hlj : listed.getD j false with
        | true =>
          have h2 := inv.closed j oj hoj hlj e he hb
          rw [hon, getD_both hun] at h2
          cases h2
        | false =>
          have hjs : j < listed.size := by rw [inv.size]; omega
          exact ih (n - j) (by omega) j rfl hjn (getD_in hjs hlj)
theorem loose_not_ready {n i j : Nat} {listed : Array Bool} (hw : looseWaits md ops n = true) (hn : n ≤ ops.size) (inv : HeadInv md ops n listed) (hi : i < n) (hun : listed.getD i true = false) (hj : j ∈ Region.ready md ops listed) : j < n := by
  simp only [looseWaits, Bool.and_eq_true] at hw
  have hlast := last_unlisted hw.1 hn inv _ i rfl hi hun
  rcases Nat.lt_or_ge j n with h | h
  · exact h
  · obtain ⟨_, oj, hoj, hall⟩ := mem_ready.1 hj
    have hjs : j < ops.size := (Array.getElem?_eq_some_iff.1 hoj).1
    have h1 := List.all_eq_true.1 hw.2 j (List.mem_range.2 hjs)
    simp only [Bool.or_eq_true, decide_eq_true_eq] at h1
    rcases h1 with h1 | h1
    · exact h1
    · obtain ⟨k, hk, hk2⟩ := List.any_eq_true.1 h1
      simp only [Bool.and_eq_true, decide_eq_true_eq] at hk2
      have hkj := List.mem_range.1 hk
      obtain ⟨o', ho', e, he, hb, hon⟩ := Region.waitsFor_spec hk2.2
      have : o' = oj := Option.some.inj (ho'.symm.trans hoj)
      subst this
      have h2 := hall e he hb
      rw [hon] at h2
      by_cases hkn : k = n - 1
      · rw [hkn, getD_both hlast] at h2; cases h2
      · rw [getD_both (inv.tail k (by omega) (by omega))] at h2; cases h2

theorem wpHead_firstL {n i : Nat} {L : Array Bool → Act → Prop} {oi : Oper} {v : Value} (hi : ops[i]? = some oi) (hin : i < n) (hw : looseWaits md ops n = true) (hn : n ≤ ops.size)
    (hsel : ∀ (j : Nat) (o : Oper) cs b, ops[j]? = some o → o.op ≠ .select cs b) :
    ∀ (f : Nat) (listed : Array Bool) (a : Act), HeadInv md ops n listed →
      (∀ j oj, ops[j]? = some oj → j ≠ i → listed.getD j true = false → (∀ e ∈ oj.after, Region.binds md e = true → e.on ≠ i) → oi.apart ops oj = true) →
      i ∈ Region.ready md ops listed → YieldsIn P ops C oi v a →
      wpHead P md ops C n L f (listed.setIfInBounds i true) (a.put oi.dst v) → wpHead P md ops C n L (f + 1) listed a := by
  intro f
  induction f with
  | zero =>
    intro listed a inv _ hr hy H
    refine ⟨fun h => (by rw [h] at hr; cases hr), fun j hj => ?_⟩
    have hjn : j < n := loose_not_ready hw hn inv hin (mem_ready.1 hr).1 hj
    refine ⟨hjn, ?_⟩
    by_cases hji : j = i
    · subst hji; exact hy.qOp hi H
    · have h1 := H.1 j hjn
      rw [getD_set_ne true (Ne.symm hji)] at h1
      have h2 := (mem_ready.1 hj).1
      rw [h1] at h2
      cases h2
  | succ f ih =>
    intro listed a inv hfree hr hy H
    refine ⟨fun h => (by rw [h] at hr; cases hr), fun j hj => ?_⟩
    have hjn : j < n := loose_not_ready hw hn inv hin (mem_ready.1 hr).1 hj
    refine ⟨hjn, ?_⟩
    by_cases hji : j = i
    · subst hji; exact hy.qOp hi H
    · have h1 := (H.2 j (ready_mono hj hji)).2
      obtain ⟨hjun, oj, hoj, hall⟩ := mem_ready.1 hj
      have hnot : ∀ e ∈ oj.after, Region.binds md e = true → e.on ≠ i := fun e he hb heq => by
        have h1 := hall e he hb
        rw [heq, getD_unlisted (mem_ready.1 hr).1] at h1
        cases h1
      have h2 := qOp_put hoj (hfree j oj hoj hji hjun hnot) (fun cs b => hsel i oi cs b hi) (fun cs b => hsel j oj cs b hoj) hy h1
      have hfree' : ∀ k ok, ops[k]? = some ok → k ≠ i → (listed.setIfInBounds j true).getD k true = false →
          (∀ e ∈ ok.after, Region.binds md e = true → e.on ≠ i) → oi.apart ops ok = true := fun k ok hk hki hun hno => by
        refine hfree k ok hk hki ?_ hno
        by_cases hjk : j = k
        · subst hjk; exact hjun
        · rw [getD_set_ne true hjk] at hun; exact hun
      refine qOp_mono (fun a' h3 => ih (listed.setIfInBounds j true) a' (inv.set hj hjn) hfree' (ready_mono hr (Ne.symm hji)) h3.1 ?_) h2
      rw [Array.setIfInBounds_comm _ _ hji]
      exact h3.2

theorem wpHead_lexL {n : Nat} {L : Array Bool → Act → Prop} (hw : looseWaits md ops n = true) (hn : n ≤ ops.size) (hs : Region.noSelect ops = true) :
    ∀ (l : List Oper) (k : Nat) (listed : Array Bool) (a : Act), HeadInv md ops n listed → (∀ j, j < l.length → l[j]? = ops[k + j]?) →
      headFrom md ops n l.length k listed = true → wpQuiet P ops C (L (listedFrom l.length k listed)) l a → wpHead P md ops C n L l.length listed a
  | [], _, listed, _, _, _, hB, h => by
    refine ⟨fun i hi => ?_, h⟩
    exact List.all_eq_true.1 hB i (List.mem_range.2 hi)
  | o :: l, k, listed, a, inv, hl, hB, h => by
    have h0 : ops[k]? = some o := by simpa using (hl 0 (by simp)).symm
    simp only [List.length_cons, headFrom, Bool.and_eq_true, decide_eq_true_eq] at hB
    obtain ⟨⟨⟨hk, hr⟩, hf⟩, hB'⟩ := hB
    have hst : qOp P ops C k (wpQuiet P ops C (L (listedFrom l.length (k + 1) (listed.setIfInBounds k true))) l) a := by unfold qOp; simp only [h0]; exact h
    obtain ⟨v, hy, hK⟩ := yieldsIn_of_qOp h0 hst
    have hr' : k ∈ Region.ready md ops listed := by simpa using hr
    exact wpHead_firstL h0 hk hw hn (Region.noSelect_spec hs) l.length listed a inv (Region.free_spec h0 hf) hr' hy
      (wpHead_lexL hw hn hs l (k + 1) _ _ (inv.set hr' hk) (fun j hj => by have := hl (j + 1) (by simpa using hj); simpa [Nat.add_assoc, Nat.add_comm 1 j] using this) hB' hK)

/-- One operation, whatever comes behind it. -/
theorem wpOp_plain {Q : Exit → Act → World → Prop} {K' : Act → World → Prop} {i : Nat} {o : Oper} {a : Act} {w : World} (ho : ops[i]? = some o) (hg : o.guard = none)
    (h : ∀ K : Act → World → Prop, (∀ a w, K' a w → K a w) → o.wp P a w K Q) : wpOp P ops Q i K' a w := by
  unfold wpOp
  simp only [ho]
  rw [if_pos (by simp [Region.wanted, hg])]
  exact .inl (h _ fun _ _ h => h)
theorem wpAny_one (i : Nat) {Q : Exit → Act → World → Prop} {f : Nat} {listed : Array Bool} {o : Oper} {a : Act} {w : World} (hr : (Region.ready md ops listed == [i]) = true) (ho : ops[i]? = some o) (hg : o.guard = none)
    (h : ∀ K : Act → World → Prop, (∀ a w, wpAny P md ops Q f (listed.setIfInBounds i true) a w → K a w) → o.wp P a w K Q) : wpAny P md ops Q (f + 1) listed a w := by
  have hr' := eq_of_beq hr
  refine ⟨fun h0 => (by rw [hr'] at h0; cases h0), fun j hj => ?_⟩
  rw [hr'] at hj
  obtain rfl : j = i := by simpa using hj
  exact wpOp_plain ho hg h
theorem wpAny_two (i k : Nat) {Q : Exit → Act → World → Prop} {f : Nat} {listed : Array Bool} {o o' : Oper} {a : Act} {w : World} (hr : (Region.ready md ops listed == [i, k]) = true) (ho : ops[i]? = some o) (hg : o.guard = none) (ho' : ops[k]? = some o') (hg' : o'.guard = none)
    (h : ∀ K : Act → World → Prop, (∀ a w, wpAny P md ops Q f (listed.setIfInBounds i true) a w → K a w) → o.wp P a w K Q)
    (h' : ∀ K : Act → World → Prop, (∀ a w, wpAny P md ops Q f (listed.setIfInBounds k true) a w → K a w) → o'.wp P a w K Q) : wpAny P md ops Q (f + 1) listed a w := by
  have hr' := eq_of_beq hr
  refine ⟨fun h0 => (by rw [hr'] at h0; cases h0), fun j hj => ?_⟩
  rw [hr'] at hj
  rcases (by simpa using hj : j = i ∨ j = k) with rfl | rfl
  · exact wpOp_plain ho hg h
  · exact wpOp_plain ho' hg' h'
theorem wpAny_end {Q : Exit → Act → World → Prop} {listed : Array Bool} {a : Act} {w : World} (hr : (Region.ready md ops listed == []) = true) (h : Q .normal a w) : wpAny P md ops Q 0 listed a w :=
  ⟨eq_of_beq hr, h⟩
end
/-- n: how many operations ahead of the rest. -/
theorem wp_region_gr_loose (n m : Nat) {P : Program} {id : Nat} {Q : Exit → Act → World → Prop} {a : Act} {w : World} {l : List Oper} (hm : P.follows .mixedOrders = true)
    (hB : (Region.noSelect l.toArray && looseWaits .any l.toArray n && headFrom .any l.toArray n n 0 (Array.replicate l.length false) && decide (n + m = l.length)) = true)
    (h : wpQuiet P l.toArray (fun w' => ∃ g : Gr w, w' = g.world) (fun a' => ∀ g : Gr w, wpAny P .any l.toArray Q m (listedFrom n 0 (Array.replicate (n + m) false)) a' g.world) (l.take n) a) : (Code.region id l.toArray true).wp P Q a w := by
  simp only [Bool.and_eq_true, decide_eq_true_eq] at hB
  obtain ⟨⟨⟨h1, h2⟩, h3⟩, h4⟩ := hB
  rw [h4] at h
  have e1 : (l.take n).length = n := by simp; omega
  refine wp_region_any hm ?_
  have hsz : l.toArray.size = n + m := by simp; omega
  rw [hsz]
  refine wpAny_of_wpHead (C := fun w' => ∃ g : Gr w, w' = g.world) (n := n) (L := fun listed a' => listed = listedFrom n 0 (Array.replicate l.length false) ∧ ∀ g : Gr w, wpAny P .any l.toArray Q m listed a' g.world) ?_ n _ a _ (Gr.of ((Below.refl _ w).drew)) ?_
  · rintro listed a' ⟨rfl, hh⟩ w' ⟨g, rfl⟩
    exact hh g
  · have e2 : (Array.replicate (n + m) false) = Array.replicate l.length false := by rw [h4]
    rw [e2]
    have hx := wpHead_lexL (P := P) (C := fun w' => ∃ g : Gr w, w' = g.world) (L := fun listed a' => listed = listedFrom n 0 (Array.replicate l.length false) ∧ ∀ g : Gr w, wpAny P .any l.toArray Q m listed a' g.world) h2 (by simp; omega) h1 (l.take n) 0 (Array.replicate l.length false) a
      (by have := inv_start (md := .any) (ops := l.toArray) (n := n); simpa using this) (fun j hj => by rw [e1] at hj; simp [List.getElem?_take, hj]) (by rw [e1]; exact h3) ?_
    · rw [e1] at hx; exact hx
    · rw [e1]; simpa using h
theorem wp_region_gr_loose' (n m : Nat) {P : Program} {id : Nat} {Q : Exit → Act → World → Prop} {a : Act} {w : World} {g0 : Gr w} {l : List Oper} (hm : P.follows .mixedOrders = true)
    (hB : (Region.noSelect l.toArray && looseWaits .any l.toArray n && headFrom .any l.toArray n n 0 (Array.replicate l.length false) && decide (n + m = l.length)) = true)
    (h : wpQuiet P l.toArray (fun w' => ∃ g : Gr w, w' = g.world) (fun a' => ∀ g : Gr w, wpAny P .any l.toArray Q m (listedFrom n 0 (Array.replicate (n + m) false)) a' g.world) (l.take n) a) : (Code.region id l.toArray true).wp P Q a g0.world := by
  simp only [Bool.and_eq_true, decide_eq_true_eq] at hB
  obtain ⟨⟨⟨h1, h2⟩, h3⟩, h4⟩ := hB
  rw [h4] at h
  have e1 : (l.take n).length = n := by simp; omega
  refine wp_region_any hm ?_
  have hsz : l.toArray.size = n + m := by simp; omega
  rw [hsz]
  refine wpAny_of_wpHead (C := fun w' => ∃ g : Gr w, w' = g.world) (n := n) (L := fun listed a' => listed = listedFrom n 0 (Array.replicate l.length false) ∧ ∀ g : Gr w, wpAny P .any l.toArray Q m listed a' g.world) ?_ n _ a _ (Gr.of (g0.below.drew)) ?_
  · rintro listed a' ⟨rfl, hh⟩ w' ⟨g, rfl⟩
    exact hh g
  · have e2 : (Array.replicate (n + m) false) = Array.replicate l.length false := by rw [h4]
    rw [e2]
    have hx := wpHead_lexL (P := P) (C := fun w' => ∃ g : Gr w, w' = g.world) (L := fun listed a' => listed = listedFrom n 0 (Array.replicate l.length false) ∧ ∀ g : Gr w, wpAny P .any l.toArray Q m listed a' g.world) h2 (by simp; omega) h1 (l.take n) 0 (Array.replicate l.length false) a
      (by have := inv_start (md := .any) (ops := l.toArray) (n := n); simpa using this) (fun j hj => by rw [e1] at hj; simp [List.getElem?_take, hj]) (by rw [e1]; exact h3) ?_
    · rw [e1] at hx; exact hx
    · rw [e1]; simpa using h
end Go.Proofs.YtjhdgpboofcelaaDoor
