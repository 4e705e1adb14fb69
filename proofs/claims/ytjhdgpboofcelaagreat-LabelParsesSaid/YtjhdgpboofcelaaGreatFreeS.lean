/- XFree's law for a region in which one old block may turn. No condition. -/
import Derived.Test.YtjhdgpboofcelaaGreatFree
import Derived.Test.YtjhdgpboofcelaaGreatC8
namespace Go.Proofs.YtjhdgpboofcelaaGreat
open Go.RowKit

/-- A world that has come of w, block r alone turned. -/
structure GrB (B r : Nat) (w : World) (J : World → Prop) where
  world : World
  but : But B r w world
  ok : J world
theorem GrB.le {B r : Nat} {w : World} {J : World → Prop} (g : GrB B r w J) : w.heap.size ≤ g.world.heap.size := g.but.1.size
@[simp, go_sem] theorem GrB.lt' {B r : Nat} {w : World} {J : World → Prop} (g : GrB B r w J) {k : Nat} (h : k < w.heap.size) : (k < g.world.heap.size) = True := eq_true (Nat.lt_of_lt_of_le h g.le)
@[simp, go_sem] theorem GrB.cell? {B r : Nat} {w : World} {J : World → Prop} (g : GrB B r w J) (p : Addr) (h : p.block < w.heap.size) (hr : ¬ p.block = r) : g.world.cell? p = w.cell? p := World.cell?_of_block (g.but.2 p.block h hr)
theorem frozen?_of_block {w w' : World} {p : Addr} (h : w'.heap[p.block]? = w.heap[p.block]?) : w'.frozen? p = w.frozen? p := by
  simp only [World.frozen?, h]
@[simp, go_sem] theorem GrB.frozen? {B r : Nat} {w : World} {J : World → Prop} (g : GrB B r w J) (p : Addr) (h : p.block < w.heap.size) (hr : ¬ p.block = r) : g.world.frozen? p = w.frozen? p := frozen?_of_block (g.but.2 p.block h hr)
theorem But.alloc {B r : Nat} {w w' : World} (h : But B r w w') (hB : B ≤ w'.heap.size) (o : Obj) : But B r w (w'.alloc o) :=
  ⟨h.1.alloc hB _, fun k h1 h2 => (Below.heap_alloc _ _ _ (Nat.lt_of_lt_of_le h1 h.1.size)).trans (h.2 k h1 h2)⟩

theorem wp_region_but_free (B r : Nat) (J : World → Prop) (n m : Nat) (ts : List Nat) {P : Program} {id : Nat} {Q : Exit → Act → World → Prop} {a : Act} {w : World} {l : List Oper} (hm : P.follows .mixedOrders = true) (h0 : J w.drew)
    (hB : (Region.noSelect l.toArray && headFree .any l.toArray ts n 0 (Array.replicate l.length false) && decide (n + m = l.length)) = true)
    (h : wpQuiet P l.toArray (fun w' => ∃ g : GrB B r w J, w' = g.world) (fun a' => ∀ g : GrB B r w J, wpAnyC P l.toArray (NoPanic Q) (fun w' => ∃ g : GrB B r w J, w' = g.world) ts m (listedFrom n 0 (Array.replicate l.length false)) a' g.world) (l.take n) a) : (Code.region id l.toArray true).wp P Q a w := by
  simp only [Bool.and_eq_true, decide_eq_true_eq] at hB
  obtain ⟨⟨h1, h2⟩, h5⟩ := hB
  have e1 : (l.take n).length = n := by simp; omega
  refine wp_region_noPanic ?_
  refine wp_region_any hm (wpAny_of_T (S := fun w' => ∃ g : GrB B r w J, w' = g.world) (T := fun t => ts.contains t) _ _ _ _ ?_)
  obtain ⟨g, hg⟩ : ∃ g : GrB B r w J, w.drew = g.world := ⟨⟨w.drew, (But.refl _ _ _).drew, h0⟩, rfl⟩
  have hg' : ({ w with drawn := w.drawn + 1 } : World) = g.world := hg
  rw [hg']
  have hsz : l.toArray.size = (l.take n).length + m := by simp; omega
  have hrep : Array.replicate l.toArray.size false = Array.replicate l.length false := by simp
  rw [hrep, hsz]
  have hcl : ∀ (k j : Nat) (li : Array Bool), headFree .any l.toArray ts k j li = true → ClosedL .any l.toArray li → ClosedL .any l.toArray (listedFrom k j li) := by
    intro k
    induction k with
    | zero => intro j li _ h; exact h
    | succ k ih =>
      intro j li hB h
      simp only [headFree, Bool.and_eq_true] at hB
      exact ih _ _ hB.2 (h.set (by simpa using hB.1.1.1.1))
  refine wpAnyT_lex (ts := ts) h1 (fun _ _ _ _ _ h => h) g.world ⟨g, rfl⟩ (l.take n) 0 _ a ClosedL.start (fun j hj => by rw [e1] at hj; simp [List.getElem?_take, hj]) (by rw [e1]; exact h2) ?_
  refine wpQuiet_imp (fun a' ha => ?_) _ _ h
  rw [e1]
  exact ha g h1 (fun _ _ _ _ _ h => h) (hcl n 0 _ h2 ClosedL.start)

/-- An operation that reads, for which all that may turn the world wait, may be taken first. -/
theorem wpAnyC_readL (i : Nat) {P : Program} {Q : Exit → Act → World → Prop} {S : World → Prop} {l : List Oper} {ts : List Nat} {fuel : Nat} {listed : Array Bool} {a : Act} {w : World} (hS : S w)
    (hB : ((match l[i]? with | some o => readOp o.op | none => false) && (Region.ready .any l.toArray listed).contains i && Region.free .any l.toArray listed i && (ts.all fun t => waitsT .any l.toArray l.toArray.size t i)) = true)
    (h : wpQuiet P l.toArray S (fun a' => wpAnyC P l.toArray Q S ts fuel (listed.setIfInBounds i true) a' w) ((l.drop i).take 1) a) : wpAnyC P l.toArray Q S ts (fuel + 1) listed a w := by
  simp only [Bool.and_eq_true] at hB
  obtain ⟨⟨⟨h1, h2⟩, h3⟩, h4⟩ := hB
  cases ho : l[i]? with
  | none => rw [ho] at h1; cases h1
  | some o =>
    rw [ho] at h1
    have e : (l.drop i).take 1 = [o] := by
      obtain ⟨hlt, rfl⟩ := List.getElem?_eq_some_iff.1 ho
      rw [List.drop_eq_getElem_cons hlt]
      rfl
    rw [e] at h
    have ho' : l.toArray[i]? = some o := by simpa using ho
    intro hs hQ hcl
    have hst : qOp P l.toArray S i (fun a' => wpAnyC P l.toArray Q S ts fuel (listed.setIfInBounds i true) a' w) a := by
      unfold qOp; simp only [ho']
      simpa [wpQuiet] using h
    obtain ⟨v, hy, hK⟩ := yieldsIn_of_qOp ho' hst
    have hr' : i ∈ Region.ready .any l.toArray listed := by simpa using h2
    exact wpAnyT_first (S1 := S) ho' (Region.noSelect_spec hs) (fun c a w => hQ c a w _ _) (fun li j w w' hc hj hun hSw ht => ht.resolve_left (fun hT => by
        have h5 := List.all_eq_true.1 h4 j (by simpa using hT)
        rw [listed_of_waitsT hc _ _ _ h5 (.inr hj)] at hun
        cases hun) hSw) fuel listed a w hcl (Region.free_spec ho' h3) hr' (YieldsIn.read hy h1) hS (hK hs hQ (hcl.set hr'))
end Go.Proofs.YtjhdgpboofcelaaGreat
