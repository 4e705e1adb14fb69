/- A region that draws its order: its first n operations read, or call what makes memory alone; the others wait for all of these, one behind the other. One walk, in the text's order, serves. No condition. -/
import Derived.Test.YtjhdgpboofcelaaDoorBase
import Derived.StillTail
namespace Go.Proofs.YtjhdgpboofcelaaDoor
open Go.RowKit
section
variable {P : Program} {ops : Array Oper} {C : World → Prop} {md : Region.Mode}

/-- Each of the later operations waits for each of the first n. -/
def tailWaits (md : Region.Mode) (ops : Array Oper) (n : Nat) : Bool := Region.sinkB md ops n && Region.chainB md ops n && decide (n < ops.size)
theorem tail_not_ready {n i j : Nat} {listed : Array Bool} (hw : tailWaits md ops n = true) (inv : HeadInv md ops n listed) (hi : i < n) (hun : listed.getD i true = false) (hj : j ∈ Region.ready md ops listed) : j < n := by
  simp only [tailWaits, Bool.and_eq_true, decide_eq_true_eq] at hw
  rcases Nat.lt_or_ge j n with h | h
  · exact h
  · exact absurd hj (tail_waits hw.1.1 hw.1.2 hw.2 inv _ i rfl hi hun j h)
theorem inv_start {n : Nat} : HeadInv md ops n (Array.replicate ops.size false) := by
  refine ⟨by simp, fun j oj _ hl => ?_, fun t _ ht => ?_⟩
  · rw [getD_replicate_false] at hl; cases hl
  · simp [ht]
theorem getD_unlisted {listed : Array Bool} {i : Nat} (h : listed.getD i true = false) : listed.getD i false = false := by
  rcases Nat.lt_or_ge i listed.size with h' | h'
  · simp [h'] at h ⊢; exact h
  · simp [Array.getElem?_eq_none h'] at h

/-- Whatever order the first n are picked in. -/
def wpHead (P : Program) (md : Region.Mode) (ops : Array Oper) (C : World → Prop) (n : Nat) (L : Array Bool → Act → Prop) : Nat → Array Bool → Act → Prop
  | 0, listed, a => (∀ i, i < n → listed.getD i true = true) ∧ L listed a
  | f + 1, listed, a => Region.ready md ops listed ≠ [] ∧ ∀ i ∈ Region.ready md ops listed, i < n ∧ qOp P ops C i (wpHead P md ops C n L f (listed.setIfInBounds i true)) a

theorem wpHead_first {n i : Nat} {L : Array Bool → Act → Prop} {oi : Oper} {v : Value} (hi : ops[i]? = some oi) (hin : i < n) (hw : tailWaits md ops n = true)
    (hsel : ∀ (j : Nat) (o : Oper) cs b, ops[j]? = some o → o.op ≠ .select cs b) :
    ∀ (f : Nat) (listed : Array Bool) (a : Act), HeadInv md ops n listed →
      (∀ j oj, ops[j]? = some oj → j ≠ i → listed.getD j true = false → (∀ e ∈ oj.after, Region.binds md e = true → e.on ≠ i) → oi.apart ops oj = true) →
      i ∈ Region.ready md ops listed → YieldsIn P ops C oi v a →
      wpHead P md ops C n L f (listed.setIfInBounds i true) (a.put oi.dst v) → wpHead P md ops C n L (f + 1) listed a := by
  intro f
  induction f with
  | zero =>
    intro listed a inv _ hr hy H
    refine ⟨fun h => (by rw [h] at hr; cases hr), fun j hj => ?_⟩
    have hjn : j < n := tail_not_ready hw inv hin (mem_ready.1 hr).1 hj
    refine ⟨hjn, ?_⟩
    by_cases hji : j = i
    · subst hji; exact hy.qOp hi H
    · have h1 := H.1 j hjn
      rw [getD_set_ne true (Ne.symm hji)] at h1
      have h2 := (mem_ready.1 hj).1
      rw [h1] at h2
      cases h2
  | succ f ih =>
    intro listed a inv hfree hr hy H
    refine ⟨fun h => (by rw [h] at hr; cases hr), fun j hj => ?_⟩
    have hjn : j < n := tail_not_ready hw inv hin (mem_ready.1 hr).1 hj
    refine ⟨hjn, ?_⟩
    by_cases hji : j = i
    · subst hji; exact hy.qOp hi H
    · have h1 := (H.2 j (ready_mono hj hji)).2
      obtain ⟨hjun, oj, hoj, hall⟩ := mem_ready.1 hj
      have hnot : ∀ e ∈ oj.after, Region.binds md e = true → e.on ≠ i := fun e he hb heq => by
        have h1 := hall e he hb
        rw [heq, getD_unlisted (mem_ready.1 hr).1] at h1
        cases h1
      have h2 := qOp_put hoj (hfree j oj hoj hji hjun hnot) (fun cs b => hsel i oi cs b hi) (fun cs b => hsel j oj cs b hoj) hy h1
      have hfree' : ∀ k ok, ops[k]? = some ok → k ≠ i → (listed.setIfInBounds j true).getD k true = false →
          (∀ e ∈ ok.after, Region.binds md e = true → e.on ≠ i) → oi.apart ops ok = true := fun k ok hk hki hun hno => by
        refine hfree k ok hk hki ?_ hno
        by_cases hjk : j = k
        · subst hjk; exact hjun
        · rw [getD_set_ne true hjk] at hun; exact hun
      refine qOp_mono (fun a' h3 => ih (listed.setIfInBounds j true) a' (inv.set hj hjn) hfree' (ready_mono hr (Ne.symm hji)) h3.1 ?_) h2
      rw [Array.setIfInBounds_comm _ _ hji]
      exact h3.2

/-- From operation k on, f of the first n are left: each may come now, and is apart from all that doesn't wait for it. -/
def headFrom (md : Region.Mode) (ops : Array Oper) (n : Nat) : Nat → Nat → Array Bool → Bool
  | 0, _, listed => (List.range n).all fun i => listed.getD i true
  | f + 1, k, listed => decide (k < n) && (Region.ready md ops listed).contains k && Region.free md ops listed k && headFrom md ops n f (k + 1) (listed.setIfInBounds k true)
def listedFrom : Nat → Nat → Array Bool → Array Bool
  | 0, _, listed => listed
  | f + 1, k, listed => listedFrom f (k + 1) (listed.setIfInBounds k true)

theorem wpHead_lex {n : Nat} {L : Array Bool → Act → Prop} (hw : tailWaits md ops n = true) (hs : Region.noSelect ops = true) :
    ∀ (l : List Oper) (k : Nat) (listed : Array Bool) (a : Act), HeadInv md ops n listed → (∀ j, j < l.length → l[j]? = ops[k + j]?) →
      headFrom md ops n l.length k listed = true → wpQuiet P ops C (L (listedFrom l.length k listed)) l a → wpHead P md ops C n L l.length listed a
  | [], _, listed, _, _, _, hB, h => by
    refine ⟨fun i hi => ?_, h⟩
    exact List.all_eq_true.1 hB i (List.mem_range.2 hi)
  | o :: l, k, listed, a, inv, hl, hB, h => by
    have h0 : ops[k]? = some o := by simpa using (hl 0 (by simp)).symm
    simp only [List.length_cons, headFrom, Bool.and_eq_true, decide_eq_true_eq] at hB
    obtain ⟨⟨⟨hk, hr⟩, hf⟩, hB'⟩ := hB
    have hst : qOp P ops C k (wpQuiet P ops C (L (listedFrom l.length (k + 1) (listed.setIfInBounds k true))) l) a := by unfold qOp; simp only [h0]; exact h
    obtain ⟨v, hy, hK⟩ := yieldsIn_of_qOp h0 hst
    have hr' : k ∈ Region.ready md ops listed := by simpa using hr
    exact wpHead_first h0 hk hw (Region.noSelect_spec hs) l.length listed a inv (Region.free_spec h0 hf) hr' hy
      (wpHead_lex hw hs l (k + 1) _ _ (inv.set hr' hk) (fun j hj => by have := hl (j + 1) (by simpa using hj); simpa [Nat.add_assoc, Nat.add_comm 1 j] using this) hB' hK)

theorem wpAny_of_wpHead {n g : Nat} {L : Array Bool → Act → Prop} {Q : Exit → Act → World → Prop} (hL : ∀ listed a, L listed a → ∀ w, C w → wpAny P md ops Q g listed a w) :
    ∀ (f : Nat) (listed : Array Bool) (a : Act) (w : World), C w → wpHead P md ops C n L f listed a → wpAny P md ops Q (f + g) listed a w
  | 0, listed, a, w, hw, h => by rw [Nat.zero_add]; exact hL _ _ h.2 w hw
  | f + 1, listed, a, w, hw, h => by
    rw [show f + 1 + g = (f + g) + 1 by omega]
    exact ⟨fun h0 => absurd h0 h.1, fun i hi => wpOp_of_qOp hw (fun a' w' hw' h' => wpAny_of_wpHead hL f _ a' w' hw' h') (h.2 i hi).2⟩

/-- From operation k on g are left, each alone ready when it comes. -/
def tailFrom (md : Region.Mode) (ops : Array Oper) : Nat → Nat → Array Bool → Bool
  | 0, _, listed => (Region.ready md ops listed).isEmpty
  | g + 1, k, listed => Region.ready md ops listed == [k] && tailFrom md ops g (k + 1) (listed.setIfInBounds k true)
theorem wpAny_tail {Q : Exit → Act → World → Prop} : ∀ (l : List Oper) (k : Nat) (listed : Array Bool) (a : Act) (w : World), (∀ j, l[j]? = ops[k + j]?) →
      tailFrom md ops l.length k listed = true → wpList P ops Q l a w → wpAny P md ops Q l.length listed a w
  | [], _, listed, _, _, _, hB, h => ⟨by simpa [tailFrom] using hB, h⟩
  | o :: l, k, listed, a, w, hl, hB, h => by
    have h0 : ops[k]? = some o := by simpa using (hl 0).symm
    simp only [List.length_cons, tailFrom, Bool.and_eq_true, beq_iff_eq] at hB
    obtain ⟨hr, hB'⟩ := hB
    have ih := fun a w => wpAny_tail (Q := Q) l (k + 1) (listed.setIfInBounds k true) a w (fun j => by have := hl (j + 1); simpa [Nat.add_assoc, Nat.add_comm 1 j] using this) hB'
    refine ⟨fun h1 => (by rw [hr] at h1; cases h1), fun i hi => ?_⟩
    rw [hr] at hi
    obtain rfl : i = k := by simpa using hi
    unfold wpOp
    simp only [h0]
    unfold wpList at h
    split
    · rename_i hw
      rw [if_pos hw] at h
      rcases h with h | h
      · exact .inl (Oper.wp_mono (fun a w hh => ih a w hh) h)
      · exact .inr h
    · rename_i hw
      rw [if_neg hw] at h
      exact ih _ _ h

theorem wp_region_head {id n g : Nat} {Q : Exit → Act → World → Prop} {a : Act} {w : World} {l t : List Oper} (hm : P.follows .mixedOrders = true) (hC : C { w with drawn := w.drawn + 1 })
    (hln : l.length = n) (htg : t.length = g)
    (hB : (Region.noSelect (l ++ t).toArray && tailWaits .any (l ++ t).toArray n && headFrom .any (l ++ t).toArray n n 0 (Array.replicate (n + g) false)
      && tailFrom .any (l ++ t).toArray g n (listedFrom n 0 (Array.replicate (n + g) false))) = true)
    (h : wpQuiet P (l ++ t).toArray C (fun a' => ∀ w', C w' → wpList P (l ++ t).toArray Q t a' w') l a) : (Code.region id (l ++ t).toArray true).wp P Q a w := by
  simp only [Bool.and_eq_true] at hB
  obtain ⟨⟨⟨h1, h2⟩, h3⟩, h4⟩ := hB
  subst hln htg
  refine wp_region_any hm ?_
  have hsz : (l ++ t).toArray.size = l.length + t.length := by simp
  rw [hsz]
  refine wpAny_of_wpHead (C := C) (n := l.length) (L := fun listed a' => listed = listedFrom l.length 0 (Array.replicate (l.length + t.length) false) ∧ ∀ w', C w' → wpList P (l ++ t).toArray Q t a' w') ?_ l.length _ a _ hC ?_
  · rintro listed a' ⟨rfl, hh⟩ w' hw'
    refine wpAny_tail t l.length _ a' w' (fun j => ?_) h4 (hh w' hw')
    rw [List.getElem?_toArray, List.getElem?_append_right (by omega), Nat.add_sub_cancel_left]
  · refine wpHead_lex h2 h1 l 0 _ a (by rw [← hsz]; exact inv_start) (fun j hj => ?_) h3 ?_
    · simp [List.getElem?_append, hj]
    · have e : (fun a' => listedFrom l.length 0 (Array.replicate (l.length + t.length) false) = listedFrom l.length 0 (Array.replicate (l.length + t.length) false) ∧ ∀ w', C w' → wpList P (l ++ t).toArray Q t a' w')
          = fun a' => ∀ w', C w' → wpList P (l ++ t).toArray Q t a' w' := by
        funext a'
        simp
      simpa [e] using h
end
/-- n: how many operations ahead of the tail. -/
theorem wp_region_gr_tail (n : Nat) {P : Program} {id : Nat} {Q : Exit → Act → World → Prop} {a : Act} {w : World} {l : List Oper} (hm : P.follows .mixedOrders = true)
    (hB : (Region.noSelect l.toArray && tailWaits .any l.toArray n && headFrom .any l.toArray n n 0 (Array.replicate l.length false)
      && tailFrom .any l.toArray (l.length - n) n (listedFrom n 0 (Array.replicate l.length false)) && decide (n ≤ l.length)) = true)
    (h : wpQuiet P l.toArray (fun w' => ∃ g : Gr w, w' = g.world) (fun a' => ∀ g : Gr w, wpList P l.toArray Q (l.drop n) a' g.world) (l.take n) a) : (Code.region id l.toArray true).wp P Q a w := by
  simp only [Bool.and_eq_true, decide_eq_true_eq] at hB
  obtain ⟨hB, hn⟩ := hB
  have e1 : (l.take n).length = n := by simp; omega
  have e2 : (l.drop n).length = l.length - n := by simp
  have e3 : l.take n ++ l.drop n = l := List.take_append_drop n l
  have e4 : n + (l.length - n) = l.length := by omega
  have := wp_region_head (P := P) (id := id) (n := n) (g := l.length - n) (Q := Q) (a := a) (w := w) (l := l.take n) (t := l.drop n) (C := fun w' => ∃ g : Gr w, w' = g.world) hm (Gr.of ((Below.refl _ w).drew)) e1 e2
    (by rw [e3, e4]; simpa using hB)
    (by
      rw [e3]
      have e : (fun a' => ∀ w', (∃ g : Gr w, w' = g.world) → wpList P l.toArray Q (l.drop n) a' w') = (fun a' => ∀ g : Gr w, wpList P l.toArray Q (l.drop n) a' g.world) := by
        funext a'
        exact propext ⟨fun h g => h _ ⟨g, rfl⟩, fun h w' ⟨g, hg⟩ => hg ▸ h g⟩
      rw [e]; exact h)
  rw [e3] at this
  exact this
theorem wp_region_gr_tail' (n : Nat) {P : Program} {id : Nat} {Q : Exit → Act → World → Prop} {a : Act} {w : World} {g0 : Gr w} {l : List Oper} (hm : P.follows .mixedOrders = true)
    (hB : (Region.noSelect l.toArray && tailWaits .any l.toArray n && headFrom .any l.toArray n n 0 (Array.replicate l.length false)
      && tailFrom .any l.toArray (l.length - n) n (listedFrom n 0 (Array.replicate l.length false)) && decide (n ≤ l.length)) = true)
    (h : wpQuiet P l.toArray (fun w' => ∃ g : Gr w, w' = g.world) (fun a' => ∀ g : Gr w, wpList P l.toArray Q (l.drop n) a' g.world) (l.take n) a) : (Code.region id l.toArray true).wp P Q a g0.world := by
  simp only [Bool.and_eq_true, decide_eq_true_eq] at hB
  obtain ⟨hB, hn⟩ := hB
  have e1 : (l.take n).length = n := by simp; omega
  have e2 : (l.drop n).length = l.length - n := by simp
  have e3 : l.take n ++ l.drop n = l := List.take_append_drop n l
  have e4 : n + (l.length - n) = l.length := by omega
  have := wp_region_head (P := P) (id := id) (n := n) (g := l.length - n) (Q := Q) (a := a) (w := g0.world) (l := l.take n) (t := l.drop n) (C := fun w' => ∃ g : Gr w, w' = g.world) hm (Gr.trans g0 ((Below.refl _ g0.world).drew)) e1 e2
    (by rw [e3, e4]; simpa using hB)
    (by
      rw [e3]
      have e : (fun a' => ∀ w', (∃ g : Gr w, w' = g.world) → wpList P l.toArray Q (l.drop n) a' w') = (fun a' => ∀ g : Gr w, wpList P l.toArray Q (l.drop n) a' g.world) := by
        funext a'
        exact propext ⟨fun h g => h _ ⟨g, rfl⟩, fun h w' ⟨g, hg⟩ => hg ▸ h g⟩
      rw [e]; exact h)
  rw [e3] at this
  exact this
end Go.Proofs.YtjhdgpboofcelaaDoor
