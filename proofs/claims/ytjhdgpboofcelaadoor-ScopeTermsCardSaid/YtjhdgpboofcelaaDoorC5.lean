/- Package label: Right. -/
import Derived.Test.YtjhdgpboofcelaaDoorC4
namespace Go.Proofs.YtjhdgpboofcelaaDoor
open Go.RowKit
attribute [local go_sem] Oper.semAt_some

/-- Labels whose texts are not too long for any machine. -/
abbrev SLab : Type := { x : BLab // x.1.size ≤ 1000000 ∧ x.2.size ≤ 1000000 }
instance : Inhabited SLab := ⟨⟨(⟨#[]⟩, ⟨#[]⟩), by decide⟩⟩
def encLab (x : SLab) : List Value := [.string x.1.1, .string x.1.2]
def toS : (L : List BLab) → (∀ x ∈ L, x.1.size ≤ 1000000 ∧ x.2.size ≤ 1000000) → List SLab
  | [], _ => []
  | x :: L, h => ⟨x, h x (by simp)⟩ :: toS L (fun y hy => h y (by simp [hy]))
theorem toS_length : ∀ (L : List BLab) (h : ∀ x ∈ L, x.1.size ≤ 1000000 ∧ x.2.size ≤ 1000000), (toS L h).length = L.length
  | [], _ => rfl
  | x :: L, h => by simp [toS, toS_length L]
theorem toS_any (p : BLab → Bool) : ∀ (L : List BLab) (h : ∀ x ∈ L, x.1.size ≤ 1000000 ∧ x.2.size ≤ 1000000), (toS L h).any (fun x => p x.1) = L.any p
  | [], _ => rfl
  | x :: L, h => by simp [toS, toS_any p L]
theorem toS_get : ∀ (L : List BLab) (h : ∀ x ∈ L, x.1.size ≤ 1000000 ∧ x.2.size ≤ 1000000) (i : Nat) (h1 : i < (toS L h).length) (h2 : i < L.length), (toS L h)[i].1 = L[i]
  | [], _, i, h1, _ => by simp [toS] at h1
  | x :: L, h, 0, _, _ => rfl
  | x :: L, h, i + 1, h1, h2 => by
    simp only [toS, List.getElem_cons_succ]
    exact toS_get L _ i _ _

theorem eg36 : ∀ args w, (callFunc 23 args).run Tryd.prog w = .ok (.enter 23 args) w := enters_of Tryd.func23 (by kernel_rfl) rfl
theorem contains_any (a off cap : Nat) (L : List BLab) (w : World) (hs : ∀ x ∈ L, x.1.size ≤ 1000000 ∧ x.2.size ≤ 1000000) (hlen : L.length ≤ 1000000) (ha : a < w.heap.size)
    (hc : ∀ i (h : i < L.length), w.cell? ⟨a, off + i * 2, none⟩ = some (.string L[i].1) ∧ w.cell? ⟨a, off + i * 2 + 1, none⟩ = some (.string L[i].2)) :
    Calls Tryd.prog 26 #[.slice (some ⟨a, off, none⟩) L.length cap, .func (.func 23) #[] #[]] w fun e w' => e = .returned (.bool (L.any otherB)) ∧ Below w.heap.size w w' := by
  have hp : PredBelow Tryd.prog 23 #[] (fun x => .agg (encLab x).toArray) (fun x => otherB x.1) w := fun W x hb => (other_lab x.1 W x.2.1 x.2.2).mono fun e w' ⟨h1, h2⟩ => ⟨h1, hb.trans (h2.mono hb.size)⟩
  have h := AnyQ.slices_ContainsFunc Tryd.containsA 2 Tryd.isAgg37 Tryd.sizeOf37 encLab (fun _ => rfl) (fun x => otherB x.1) 23 #[] eg36 a off L.length cap (toS L hs) w hp
    (by rw [toS_length]; exact Nat.le_refl _) (by omega) ha (fun j hj i v hi => by
      rw [toS_length] at hj
      have hg : (toS L hs)[j]! = (toS L hs)[j]'(by rw [toS_length]; exact hj) := getElem!_pos _ _ _
      have h1 := hc j hj
      have h2 := toS_get L hs j (by rw [toS_length]; exact hj) hj
      rw [hg] at hi
      rw [← h2] at h1
      match i, hi with
      | 0, hi => simp [encLab] at hi; rw [← hi]; exact h1.1
      | 1, hi => simp [encLab] at hi; rw [← hi]; exact h1.2
      | i + 2, hi => simp [encLab] at hi)
  rw [← toS_length L hs, List.take_length, toS_any otherB L hs, toS_length] at h
  exact h

/-- Do labels rise? -/
def risingB (L : List BLab) : Bool := (pairsL L).all fun x => lessBy x.1.1 x.2.1
/-- What is told ahead of the pairs. -/
def headB (L : List BLab) : Bool := decide (0 < L.length) && decide (L.length ≤ 6) && !L.any otherB
/-- Are labels a set? -/
def rightA (L : List BLab) : Bool := headB L && risingB L

/-- Does the first stand ahead of the second? -/
abbrev lessP (x : BLab × BLab) : Bool := lessBy x.1.1 x.2.1
set_option maxRecDepth 100000 in
set_option maxHeartbeats 1000000 in
theorem right_in (a off cap : Nat) (L : List BLab) (w : World) (hs : ∀ x ∈ L, x.1.size ≤ 1000000 ∧ x.2.size ≤ 1000000) (hlen : L.length ≤ 6) (hl0 : 0 < L.length) (hcap : L.length ≤ cap) (ha : a < w.heap.size)
    (hc : ∀ i (h : i < L.length), w.cell? ⟨a, off + i * 2, none⟩ = some (.string L[i].1) ∧ w.cell? ⟨a, off + i * 2 + 1, none⟩ = some (.string L[i].2)) :
    Calls Tryd.prog 12 #[.slice (some ⟨a, off, none⟩) L.length cap] w fun e w' => e = .returned (.bool (rightA L)) ∧ Below w.heap.size w w' := by
  have hC : ∀ W, Below w.heap.size w W → Calls Tryd.prog 26 #[.slice (some ⟨a, off, none⟩) L.length cap, .func (.func 23) #[] #[]] W fun e w' => e = .returned (.bool (L.any otherB)) ∧ Below W.heap.size W w' := fun W hb =>
    contains_any a off cap L W hs (by omega) (Nat.lt_of_lt_of_le ha hb.size) (fun i h => by rw [hb.cell ha, hb.cell ha]; exact hc i h)
  have hL : LabelsAt w.heap.size w (.slice (some ⟨a, off, none⟩) L.length cap) L := ⟨hs, by omega, .inr ⟨a, off, cap, rfl, ha, hcap, hc⟩⟩
  unfold rightA
  have hh : headB L = !L.any otherB := by unfold headB; simp [hl0, hlen]
  rw [hh]
  clear hc hh
  generalize hO : L.any otherB = O at *
  clear hO
  have h1 : (0 : Int) < (L.length : Int) := by omega
  have h2 : (L.length : Int) ≤ 6 := by omega
  refine calls_of_marks Tryd.func12 rfl ?_
  simp only [Tryd.ntmps12, List.size_toArray, List.length_cons, List.length_nil, Nat.reduceAdd, Nat.reduceSub, Array.replicate_succ, Array.replicate_zero, List.push_toArray, List.append_toArray, List.nil_append, List.cons_append]
  go_wp2
  go_step3
  go_wp2_with (first
    | (go_at_call 26; (first | (with_reducible refine Calls.mono (Calls.gr (hC _ (by repeat (first | exact Below.refl _ _ | assumption | (refine Below.setCell ?_ (by (first | omega | (simp; done) | (simp; omega) | (simp at *; omega))) _) | (refine Below.alloc ?_ (by (first | omega | (simp; done) | (simp; omega) | (simp at *; omega))) _) | (refine Below.drew ?_) | (refine Gr.into _ ?_ (by (first | omega | (simp; done) | (simp; omega) | (simp at *; omega)))))))) ?_) | (refine Calls.mono (Calls.gr0 (hC _ (by repeat (first | exact Below.refl _ _ | assumption | (refine Below.setCell ?_ (by (first | omega | (simp; done) | (simp; omega) | (simp at *; omega))) _) | (refine Below.alloc ?_ (by (first | omega | (simp; done) | (simp; omega) | (simp at *; omega))) _) | (refine Below.drew ?_) | (refine Gr.into _ ?_ (by (first | omega | (simp; done) | (simp; omega) | (simp at *; omega)))))))) ?_)); rintro e w' ⟨rfl, g, rfl⟩; have hgl := g.le; (try simp only [World.size_alloc] at hgl); (try simp only [World.size_setCell] at hgl)))
  go_step3
  go_wp2_with (first
    | (go_at_call 27; refine Calls.mono (pairs_any _ _ _ _) ?_; rintro e w' ⟨rfl, rfl⟩))
  refine wp_named (fun W hW => ?_)
  have hBW : Below w.heap.size w W := by rw [hW]; exact (by repeat (first | exact Below.refl _ _ | assumption | (refine Below.setCell ?_ (by (first | omega | (simp; done) | (simp; omega) | (simp at *; omega))) _) | (refine Below.alloc ?_ (by (first | omega | (simp; done) | (simp; omega) | (simp at *; omega))) _) | (refine Below.drew ?_) | (refine Gr.into _ ?_ (by (first | omega | (simp; done) | (simp; omega) | (simp at *; omega))))))
  have o : RowAt W (g.world.heap.size) 4 [.bool !O] := by rw [hW]; exact (by repeat (first | assumption | exact RowAt.new_at _ _ _ _ (by (first | omega | (simp; done) | (simp; omega) | (simp at *; omega))) | (refine RowAt.alloc ?_ _) | (refine RowAt.gr ?_ _) | (refine RowAt.setOther ?_ _ _ (by (first | omega | (simp; done) | (simp; omega) | (simp at *; omega)))) | (refine RowAt.drew ?_)))
  have bx : RowAt W (g.world.heap.size + 1) 29 [.slice (some ⟨a, off, none⟩) L.length cap] := by rw [hW]; exact (by repeat (first | assumption | exact RowAt.new_at _ _ _ _ (by (first | omega | (simp; done) | (simp; omega) | (simp at *; omega))) | (refine RowAt.alloc ?_ _) | (refine RowAt.gr ?_ _) | (refine RowAt.setOther ?_ _ _ (by (first | omega | (simp; done) | (simp; omega) | (simp at *; omega)))) | (refine RowAt.drew ?_)))
  clear hW
  obtain ⟨oc0, of0, ol⟩ := o.one
  obtain ⟨bxc0, bxf0, bxl⟩ := bx.one
  generalize g.world.heap.size = ko at *
  clear g
  have hLW := hL.at_ hBW
  have hvb : ∀ k, (L ≠ [] ∧ (.slice (some ⟨a, off, none⟩) L.length cap : Value).ownBlock = some k) → k < w.heap.size := fun k ⟨hne, hk⟩ => by
    obtain ⟨n1, n2, ⟨a', e1, e2⟩ | ⟨a', off', cap', e1, n3, n4, n5⟩⟩ := hL
    · exact absurd e2 hne
    · rw [e1] at hk; simp [Value.ownBlock] at hk; omega
  refine (wpIn_wide (n := 9)).1 ?_
  refine wpIn_rangeFunc_ownH (F := Fence.wide) (n := 9) rfl (by omega) (gf := 40) (lb := #[.pointer (some ⟨ko + 1, 0, none⟩)]) rfl trivial
    (enters_of Tryd.func40 (by kernel_rfl) rfl)
    (pairs_stops 8 (ko + 1) (.slice (some ⟨a, off, none⟩) L.length cap) L W bx hLW) KeptAt.trans (KeptAt.putObj (by rintro k (rfl | hk); exact bxl; have := hvb k hk; have := hBW.size; omega)) (Below.refl _ _) (fun _ => rfl)
    (fun pre W' => (RowAt W' ko 4 [.bool (!O && pre.all lessP)] ∧ RowAt W' (ko + 1) 29 [.slice (some ⟨a, off, none⟩) L.length cap]) ∧ Below w.heap.size w W')
    (fun c pre W' => (RowAt W' ko 4 [.bool false] ∧ Below w.heap.size w W') ∧ (c = Code.exit 0 ∧ pre.all lessP = false))
    (OwnFrom.and (fun pre X Y row hs hg hr => ⟨hs.1.grown hg (fun r e => (hr r e).2), hs.2.grown hg (fun r e => (hr r e).2)⟩) (ownFrom_below (Nat.le_refl _) hBW.size))
    (fun c => OwnFrom.and (OwnFrom.and (fun pre X Y row hs hg hr => hs.grown hg (fun r e => (hr r e).2)) (ownFrom_below (Nat.le_refl _) hBW.size)) (ownFrom_pure _ _))
    ⟨⟨by simpa using o, bx⟩, hBW⟩
    (fun y a' W' => ∃ ka kb, ko + 1 < ka ∧ ko + 1 < kb ∧ RowAt W' ka 37 [.string y.1.1, .string y.1.2] ∧ RowAt W' kb 37 [.string y.2.1, .string y.2.2] ∧ a' = { tmps := #[.slice (some ⟨a, off, none⟩) L.length cap, undef, .bool false, .func (.func 23) #[] #[], .pointer (some ⟨ko, 0, none⟩), .pointer (some ⟨ka, 0, none⟩), .pointer (some ⟨kb, 0, none⟩), .slice (some ⟨a, off, none⟩) L.length cap, .int .i64 L.length, .bool true, .bool true, .slice (some ⟨a, off, none⟩) L.length cap, .int .i64 L.length, .bool true, .bool true, .bool true, .slice (some ⟨a, off, none⟩) L.length cap, .func (.func 23) #[] #[], .bool O, .bool !O, .bool !O, .slice (some ⟨a, off, none⟩) L.length cap, .func (.func 40) #[] #[.pointer (some ⟨ko + 1, 0, none⟩)], LabV y.1, LabV y.2, undef, undef, undef, undef, undef, undef], defers := [] })
    (fun y a' _ X Y row hs hg hr => by obtain ⟨ka, kb, e1, e2, e3, e4, e5⟩ := hs; exact ⟨ka, kb, e1, e2, e3.grown hg (fun r e => (hr r e).2), e4.grown hg (fun r e => (hr r e).2), e5⟩)
    ?assign ?body ?done ?stop
  case assign =>
    rintro l pre y W' K ⟨⟨h1, h2⟩, hB⟩ hK
    have hl1 := h2.lt
    gi_wp2
    have hsz := hB.size
    have hWs := hBW.size
    refine hK _ _ (((KeepsOthers.alloc _ _).trans (KeepsOthers.alloc _ _)).from _) ?_ ⟨⟨(h1.alloc _).alloc _, (h2.alloc _).alloc _⟩, (hB.alloc hsz _).alloc (by simp; omega) _⟩ ⟨W'.heap.size, W'.heap.size + 1, ?_, ?_, (RowAt.of_new _ _ _).alloc _, RowAt.new_at _ _ _ _ (by simp), rfl⟩
    · rintro k (rfl | hk)
      · rw [Below.heap_alloc _ _ _ (by simp; omega), Below.heap_alloc _ _ _ (by omega)]
      · rw [Below.heap_alloc _ _ _ (by have := hvb k hk; simp; omega), Below.heap_alloc _ _ _ (by have := hvb k hk; omega)]
    · omega
    · omega
  case body =>
    rintro l pre y a' W' hl hloop ⟨⟨h1, h2⟩, hB⟩ ⟨ka, kb, hka, hkb, h4, h5, rfl⟩ hlt
    obtain ⟨oc0, of0, ol'⟩ := h1.one
    obtain ⟨ac0, ac1, -, -, al'⟩ := h4.two
    obtain ⟨bc0, bc1, -, -, bl'⟩ := h5.two
    have hsnoc : (pre ++ [y]).all lessP = (pre.all lessP && lessP y) := by simp
    by_cases hy : Go.Op.bytesLess y.1.1.toList y.2.1.toList = true
    · have hy2 : lessP y = true := hy
      rw [hy2, Bool.and_true] at hsnoc
      gi_wp2
      exact ⟨KeepsFrom.refl _ _, fun _ _ => rfl, ⟨by rw [hsnoc]; exact h1, h2⟩, hB⟩
    · have hy1 : Go.Op.bytesLess y.1.1.toList y.2.1.toList = false := by simpa using hy
      have hy2 : lessP y = false := hy1
      rw [hy2, Bool.and_false] at hsnoc
      gi_wp2
      refine ⟨(KeepsOthers.setCell _ _ _).from _, ⟨h1.set 0 _, hB.setCell (p := ⟨ko, 0, none⟩) (by show _ ≤ ko; omega) _⟩, rfl, hsnoc⟩
  case done =>
    rintro D ys W' hD rfl ⟨⟨h1, h2⟩, hB⟩ hK
    obtain ⟨oc0, of0, ol'⟩ := h1.one
    go_wp2
    exact bodyPostM_ret1 (v := .bool (!O && (pairsL L).all lessP)) hK (by simp [results, Tryd.f12, go_sem]) rfl ⟨rfl, below_putObj hB hK (by have := hBW.size; omega)⟩
  case stop =>
    rintro D c pre W' hD hpre ⟨⟨h1, hB⟩, rfl, hf⟩ hK
    obtain ⟨oc0, of0, ol'⟩ := h1.one
    have hall : risingB L = false := by
      obtain ⟨t, ht⟩ := hpre
      unfold risingB
      rw [← ht, List.all_append]
      show (pre.all lessP && _) = false
      rw [hf]; rfl
    gi_wp2
    go_wp2
    exact bodyPostM_ret1 (v := .bool false) hK (by simp [results, Tryd.f12, go_sem]) rfl ⟨by rw [hall]; simp, below_putObj hB hK (by have := hBW.size; omega)⟩

set_option maxRecDepth 100000 in
set_option maxHeartbeats 1000000 in
theorem right_many (a off cap : Nat) (L : List BLab) (w : World) (hs : ∀ x ∈ L, x.1.size ≤ 1000000 ∧ x.2.size ≤ 1000000) (hlen : 6 < L.length) (hl1 : L.length ≤ 1000000) (hcap : L.length ≤ cap) (ha : a < w.heap.size)
    (hc : ∀ i (h : i < L.length), w.cell? ⟨a, off + i * 2, none⟩ = some (.string L[i].1) ∧ w.cell? ⟨a, off + i * 2 + 1, none⟩ = some (.string L[i].2)) :
    Calls Tryd.prog 12 #[.slice (some ⟨a, off, none⟩) L.length cap] w fun e w' => e = .returned (.bool (rightA L)) ∧ Below w.heap.size w w' := by
  have hL : LabelsAt w.heap.size w (.slice (some ⟨a, off, none⟩) L.length cap) L := ⟨hs, by omega, .inr ⟨a, off, cap, rfl, ha, hcap, hc⟩⟩
  unfold rightA
  have hh : headB L = false := by unfold headB; simp; omega
  rw [hh]
  clear hc hh
  have h1 : (0 : Int) < (L.length : Int) := by omega
  have h2 : ¬ (L.length : Int) ≤ 6 := by omega
  have HL := Lib.hid hlen
  clear hlen
  refine calls_of_marks Tryd.func12 rfl ?_
  simp only [Tryd.ntmps12, List.size_toArray, List.length_cons, List.length_nil, Nat.reduceAdd, Nat.reduceSub, Array.replicate_succ, Array.replicate_zero, List.push_toArray, List.append_toArray, List.nil_append, List.cons_append]
  go_wp2
  go_step3
  go_wp2
  go_step3
  go_wp2_with (first
    | (go_at_call 27; refine Calls.mono (pairs_any _ _ _ _) ?_; rintro e w' ⟨rfl, rfl⟩))
  refine wp_named (fun W hW => ?_)
  have hBW : Below w.heap.size w W := by rw [hW]; exact (by repeat (first | exact Below.refl _ _ | assumption | (refine Below.setCell ?_ (by (first | omega | (simp; done) | (simp; omega) | (simp at *; omega))) _) | (refine Below.alloc ?_ (by (first | omega | (simp; done) | (simp; omega) | (simp at *; omega))) _) | (refine Below.drew ?_) | (refine Gr.into _ ?_ (by (first | omega | (simp; done) | (simp; omega) | (simp at *; omega))))))
  have o : RowAt W (w.heap.size) 4 [.bool false] := by rw [hW]; exact (by repeat (first | assumption | exact RowAt.new_at _ _ _ _ (by (first | omega | (simp; done) | (simp; omega) | (simp at *; omega))) | (refine RowAt.alloc ?_ _) | (refine RowAt.gr ?_ _) | (refine RowAt.setOther ?_ _ _ (by (first | omega | (simp; done) | (simp; omega) | (simp at *; omega)))) | (refine RowAt.drew ?_)))
  have bx : RowAt W (w.heap.size + 1) 29 [.slice (some ⟨a, off, none⟩) L.length cap] := by rw [hW]; exact (by repeat (first | assumption | exact RowAt.new_at _ _ _ _ (by (first | omega | (simp; done) | (simp; omega) | (simp at *; omega))) | (refine RowAt.alloc ?_ _) | (refine RowAt.gr ?_ _) | (refine RowAt.setOther ?_ _ _ (by (first | omega | (simp; done) | (simp; omega) | (simp at *; omega)))) | (refine RowAt.drew ?_)))
  clear hW
  obtain ⟨oc0, of0, ol⟩ := o.one
  obtain ⟨bxc0, bxf0, bxl⟩ := bx.one
  have hLW := hL.at_ hBW
  have hvb : ∀ k, (L ≠ [] ∧ (.slice (some ⟨a, off, none⟩) L.length cap : Value).ownBlock = some k) → k < w.heap.size := fun k ⟨hne, hk⟩ => by
    obtain ⟨n1, n2, ⟨a', e1, e2⟩ | ⟨a', off', cap', e1, n3, n4, n5⟩⟩ := hL
    · exact absurd e2 hne
    · rw [e1] at hk; simp [Value.ownBlock] at hk; omega
  refine (wpIn_wide (n := 9)).1 ?_
  refine wpIn_rangeFunc_ownH (F := Fence.wide) (n := 9) rfl (by omega) (gf := 40) (lb := #[.pointer (some ⟨w.heap.size + 1, 0, none⟩)]) rfl trivial
    (enters_of Tryd.func40 (by kernel_rfl) rfl)
    (pairs_stops 8 (w.heap.size + 1) (.slice (some ⟨a, off, none⟩) L.length cap) L W bx hLW) KeptAt.trans (KeptAt.putObj (by rintro k (rfl | hk); exact bxl; have := hvb k hk; have := hBW.size; omega)) (Below.refl _ _) (fun _ => rfl)
    (fun pre W' => (RowAt W' w.heap.size 4 [.bool (false && pre.all lessP)] ∧ RowAt W' (w.heap.size + 1) 29 [.slice (some ⟨a, off, none⟩) L.length cap]) ∧ Below w.heap.size w W')
    (fun c pre W' => (RowAt W' w.heap.size 4 [.bool false] ∧ Below w.heap.size w W') ∧ (c = Code.exit 0 ∧ pre.all lessP = false))
    (OwnFrom.and (fun pre X Y row hs hg hr => ⟨hs.1.grown hg (fun r e => (hr r e).2), hs.2.grown hg (fun r e => (hr r e).2)⟩) (ownFrom_below (Nat.le_refl _) hBW.size))
    (fun c => OwnFrom.and (OwnFrom.and (fun pre X Y row hs hg hr => hs.grown hg (fun r e => (hr r e).2)) (ownFrom_below (Nat.le_refl _) hBW.size)) (ownFrom_pure _ _))
    ⟨⟨by simpa using o, bx⟩, hBW⟩
    (fun y a' W' => ∃ ka kb, w.heap.size + 1 < ka ∧ w.heap.size + 1 < kb ∧ RowAt W' ka 37 [.string y.1.1, .string y.1.2] ∧ RowAt W' kb 37 [.string y.2.1, .string y.2.2] ∧ a' = { tmps := #[.slice (some ⟨a, off, none⟩) L.length cap, undef, .bool false, .func (.func 23) #[] #[], .pointer (some ⟨w.heap.size, 0, none⟩), .pointer (some ⟨ka, 0, none⟩), .pointer (some ⟨kb, 0, none⟩), .slice (some ⟨a, off, none⟩) L.length cap, .int .i64 L.length, .bool true, .bool true, .slice (some ⟨a, off, none⟩) L.length cap, .int .i64 L.length, .bool false, .bool false, .bool false, undef, undef, undef, undef, .bool false, .slice (some ⟨a, off, none⟩) L.length cap, .func (.func 40) #[] #[.pointer (some ⟨w.heap.size + 1, 0, none⟩)], LabV y.1, LabV y.2, undef, undef, undef, undef, undef, undef], defers := [] })
    (fun y a' _ X Y row hs hg hr => by obtain ⟨ka, kb, e1, e2, e3, e4, e5⟩ := hs; exact ⟨ka, kb, e1, e2, e3.grown hg (fun r e => (hr r e).2), e4.grown hg (fun r e => (hr r e).2), e5⟩)
    ?assign ?body ?done ?stop
  case assign =>
    rintro l pre y W' K ⟨⟨h1, h2⟩, hB⟩ hK
    have hl1 := h2.lt
    gi_wp2
    have hsz := hB.size
    have hWs := hBW.size
    refine hK _ _ (((KeepsOthers.alloc _ _).trans (KeepsOthers.alloc _ _)).from _) ?_ ⟨⟨(h1.alloc _).alloc _, (h2.alloc _).alloc _⟩, (hB.alloc hsz _).alloc (by simp; omega) _⟩ ⟨W'.heap.size, W'.heap.size + 1, ?_, ?_, (RowAt.of_new _ _ _).alloc _, RowAt.new_at _ _ _ _ (by simp), rfl⟩
    · rintro k (rfl | hk)
      · rw [Below.heap_alloc _ _ _ (by simp; omega), Below.heap_alloc _ _ _ (by omega)]
      · rw [Below.heap_alloc _ _ _ (by have := hvb k hk; simp; omega), Below.heap_alloc _ _ _ (by have := hvb k hk; omega)]
    · omega
    · omega
  case body =>
    rintro l pre y a' W' hl hloop ⟨⟨h1, h2⟩, hB⟩ ⟨ka, kb, hka, hkb, h4, h5, rfl⟩ hlt
    obtain ⟨oc0, of0, ol'⟩ := h1.one
    obtain ⟨ac0, ac1, -, -, al'⟩ := h4.two
    obtain ⟨bc0, bc1, -, -, bl'⟩ := h5.two
    have hsnoc : (pre ++ [y]).all lessP = (pre.all lessP && lessP y) := by simp
    by_cases hy : Go.Op.bytesLess y.1.1.toList y.2.1.toList = true
    · have hy2 : lessP y = true := hy
      rw [hy2, Bool.and_true] at hsnoc
      gi_wp2
      exact ⟨KeepsFrom.refl _ _, fun _ _ => rfl, ⟨by rw [hsnoc]; exact h1, h2⟩, hB⟩
    · have hy1 : Go.Op.bytesLess y.1.1.toList y.2.1.toList = false := by simpa using hy
      have hy2 : lessP y = false := hy1
      rw [hy2, Bool.and_false] at hsnoc
      gi_wp2
      refine ⟨(KeepsOthers.setCell _ _ _).from _, ⟨h1.set 0 _, hB.setCell (p := ⟨w.heap.size, 0, none⟩) (by show _ ≤ w.heap.size; omega) _⟩, rfl, hsnoc⟩
  case done =>
    rintro D ys W' hD rfl ⟨⟨h1, h2⟩, hB⟩ hK
    obtain ⟨oc0, of0, ol'⟩ := h1.one
    go_wp2
    exact bodyPostM_ret1 (v := .bool (false && (pairsL L).all lessP)) hK (by simp [results, Tryd.f12, go_sem]) rfl ⟨rfl, below_putObj hB hK (by have := hBW.size; omega)⟩
  case stop =>
    rintro D c pre W' hD hpre ⟨⟨h1, hB⟩, rfl, hf⟩ hK
    obtain ⟨oc0, of0, ol'⟩ := h1.one
    have hall : risingB L = false := by
      obtain ⟨t, ht⟩ := hpre
      unfold risingB
      rw [← ht, List.all_append]
      show (pre.all lessP && _) = false
      rw [hf]; rfl
    gi_wp2
    go_wp2
    exact bodyPostM_ret1 (v := .bool false) hK (by simp [results, Tryd.f12, go_sem]) rfl ⟨by rw [hall]; simp, below_putObj hB hK (by have := hBW.size; omega)⟩

set_option maxRecDepth 100000 in
set_option maxHeartbeats 1000000 in
theorem right_none (p : Option Addr) (c : Nat) (L : List BLab) (w : World) (h0 : L = []) (hL : LabelsAt w.heap.size w (.slice p 0 c) L) :
    Calls Tryd.prog 12 #[.slice p 0 c] w fun e w' => e = .returned (.bool (rightA L)) ∧ Below w.heap.size w w' := by
  unfold rightA
  have hh : headB L = false := by subst h0; rfl
  rw [hh]
  have HL := Lib.hid h0
  clear hh h0
  refine calls_of_marks Tryd.func12 rfl ?_
  simp only [Tryd.ntmps12, List.size_toArray, List.length_cons, List.length_nil, Nat.reduceAdd, Nat.reduceSub, Array.replicate_succ, Array.replicate_zero, List.push_toArray, List.append_toArray, List.nil_append, List.cons_append]
  go_wp2
  go_step3
  go_wp2
  go_step3
  go_wp2_with (first
    | (go_at_call 27; refine Calls.mono (pairs_any _ _ _ _) ?_; rintro e w' ⟨rfl, rfl⟩))
  refine wp_named (fun W hW => ?_)
  have hBW : Below w.heap.size w W := by rw [hW]; exact (by repeat (first | exact Below.refl _ _ | assumption | (refine Below.setCell ?_ (by (first | omega | (simp; done) | (simp; omega) | (simp at *; omega))) _) | (refine Below.alloc ?_ (by (first | omega | (simp; done) | (simp; omega) | (simp at *; omega))) _) | (refine Below.drew ?_) | (refine Gr.into _ ?_ (by (first | omega | (simp; done) | (simp; omega) | (simp at *; omega))))))
  have o : RowAt W (w.heap.size) 4 [.bool false] := by rw [hW]; exact (by repeat (first | assumption | exact RowAt.new_at _ _ _ _ (by (first | omega | (simp; done) | (simp; omega) | (simp at *; omega))) | (refine RowAt.alloc ?_ _) | (refine RowAt.gr ?_ _) | (refine RowAt.setOther ?_ _ _ (by (first | omega | (simp; done) | (simp; omega) | (simp at *; omega)))) | (refine RowAt.drew ?_)))
  have bx : RowAt W (w.heap.size + 1) 29 [.slice p 0 c] := by rw [hW]; exact (by repeat (first | assumption | exact RowAt.new_at _ _ _ _ (by (first | omega | (simp; done) | (simp; omega) | (simp at *; omega))) | (refine RowAt.alloc ?_ _) | (refine RowAt.gr ?_ _) | (refine RowAt.setOther ?_ _ _ (by (first | omega | (simp; done) | (simp; omega) | (simp at *; omega)))) | (refine RowAt.drew ?_)))
  clear hW
  obtain ⟨oc0, of0, ol⟩ := o.one
  obtain ⟨bxc0, bxf0, bxl⟩ := bx.one
  have hLW := hL.at_ hBW
  have hvb : ∀ k, (L ≠ [] ∧ (.slice p 0 c : Value).ownBlock = some k) → k < w.heap.size := fun k ⟨hne, hk⟩ => by
    obtain ⟨n1, n2, ⟨a', e1, e2⟩ | ⟨a', off', cap', e1, n3, n4, n5⟩⟩ := hL
    · exact absurd e2 hne
    · rw [e1] at hk; simp [Value.ownBlock] at hk; omega
  refine (wpIn_wide (n := 9)).1 ?_
  refine wpIn_rangeFunc_ownH (F := Fence.wide) (n := 9) rfl (by omega) (gf := 40) (lb := #[.pointer (some ⟨w.heap.size + 1, 0, none⟩)]) rfl trivial
    (enters_of Tryd.func40 (by kernel_rfl) rfl)
    (pairs_stops 8 (w.heap.size + 1) (.slice p 0 c) L W bx hLW) KeptAt.trans (KeptAt.putObj (by rintro k (rfl | hk); exact bxl; have := hvb k hk; have := hBW.size; omega)) (Below.refl _ _) (fun _ => rfl)
    (fun pre W' => (RowAt W' w.heap.size 4 [.bool (false && pre.all lessP)] ∧ RowAt W' (w.heap.size + 1) 29 [.slice p 0 c]) ∧ Below w.heap.size w W')
    (fun c pre W' => (RowAt W' w.heap.size 4 [.bool false] ∧ Below w.heap.size w W') ∧ (c = Code.exit 0 ∧ pre.all lessP = false))
    (OwnFrom.and (fun pre X Y row hs hg hr => ⟨hs.1.grown hg (fun r e => (hr r e).2), hs.2.grown hg (fun r e => (hr r e).2)⟩) (ownFrom_below (Nat.le_refl _) hBW.size))
    (fun c => OwnFrom.and (OwnFrom.and (fun pre X Y row hs hg hr => hs.grown hg (fun r e => (hr r e).2)) (ownFrom_below (Nat.le_refl _) hBW.size)) (ownFrom_pure _ _))
    ⟨⟨by simpa using o, bx⟩, hBW⟩
    (fun y a' W' => ∃ ka kb, w.heap.size + 1 < ka ∧ w.heap.size + 1 < kb ∧ RowAt W' ka 37 [.string y.1.1, .string y.1.2] ∧ RowAt W' kb 37 [.string y.2.1, .string y.2.2] ∧ a' = { tmps := #[.slice p 0 c, undef, .bool false, .func (.func 23) #[] #[], .pointer (some ⟨w.heap.size, 0, none⟩), .pointer (some ⟨ka, 0, none⟩), .pointer (some ⟨kb, 0, none⟩), .slice p 0 c, .int .i64 0, .bool false, .bool false, undef, undef, undef, .bool false, .bool false, undef, undef, undef, undef, .bool false, .slice p 0 c, .func (.func 40) #[] #[.pointer (some ⟨w.heap.size + 1, 0, none⟩)], LabV y.1, LabV y.2, undef, undef, undef, undef, undef, undef], defers := [] })
    (fun y a' _ X Y row hs hg hr => by obtain ⟨ka, kb, e1, e2, e3, e4, e5⟩ := hs; exact ⟨ka, kb, e1, e2, e3.grown hg (fun r e => (hr r e).2), e4.grown hg (fun r e => (hr r e).2), e5⟩)
    ?assign ?body ?done ?stop
  case assign =>
    rintro l pre y W' K ⟨⟨h1, h2⟩, hB⟩ hK
    have hl1 := h2.lt
    gi_wp2
    have hsz := hB.size
    have hWs := hBW.size
    refine hK _ _ (((KeepsOthers.alloc _ _).trans (KeepsOthers.alloc _ _)).from _) ?_ ⟨⟨(h1.alloc _).alloc _, (h2.alloc _).alloc _⟩, (hB.alloc hsz _).alloc (by simp; omega) _⟩ ⟨W'.heap.size, W'.heap.size + 1, ?_, ?_, (RowAt.of_new _ _ _).alloc _, RowAt.new_at _ _ _ _ (by simp), rfl⟩
    · rintro k (rfl | hk)
      · rw [Below.heap_alloc _ _ _ (by simp; omega), Below.heap_alloc _ _ _ (by omega)]
      · rw [Below.heap_alloc _ _ _ (by have := hvb k hk; simp; omega), Below.heap_alloc _ _ _ (by have := hvb k hk; omega)]
    · omega
    · omega
  case body =>
    rintro l pre y a' W' hl hloop ⟨⟨h1, h2⟩, hB⟩ ⟨ka, kb, hka, hkb, h4, h5, rfl⟩ hlt
    obtain ⟨oc0, of0, ol'⟩ := h1.one
    obtain ⟨ac0, ac1, -, -, al'⟩ := h4.two
    obtain ⟨bc0, bc1, -, -, bl'⟩ := h5.two
    have hsnoc : (pre ++ [y]).all lessP = (pre.all lessP && lessP y) := by simp
    by_cases hy : Go.Op.bytesLess y.1.1.toList y.2.1.toList = true
    · have hy2 : lessP y = true := hy
      rw [hy2, Bool.and_true] at hsnoc
      gi_wp2
      exact ⟨KeepsFrom.refl _ _, fun _ _ => rfl, ⟨by rw [hsnoc]; exact h1, h2⟩, hB⟩
    · have hy1 : Go.Op.bytesLess y.1.1.toList y.2.1.toList = false := by simpa using hy
      have hy2 : lessP y = false := hy1
      rw [hy2, Bool.and_false] at hsnoc
      gi_wp2
      refine ⟨(KeepsOthers.setCell _ _ _).from _, ⟨h1.set 0 _, hB.setCell (p := ⟨w.heap.size, 0, none⟩) (by show _ ≤ w.heap.size; omega) _⟩, rfl, hsnoc⟩
  case done =>
    rintro D ys W' hD rfl ⟨⟨h1, h2⟩, hB⟩ hK
    obtain ⟨oc0, of0, ol'⟩ := h1.one
    go_wp2
    exact bodyPostM_ret1 (v := .bool (false && (pairsL L).all lessP)) hK (by simp [results, Tryd.f12, go_sem]) rfl ⟨rfl, below_putObj hB hK (by have := hBW.size; omega)⟩
  case stop =>
    rintro D c pre W' hD hpre ⟨⟨h1, hB⟩, rfl, hf⟩ hK
    obtain ⟨oc0, of0, ol'⟩ := h1.one
    have hall : risingB L = false := by
      obtain ⟨t, ht⟩ := hpre
      unfold risingB
      rw [← ht, List.all_append]
      show (pre.all lessP && _) = false
      rw [hf]; rfl
    gi_wp2
    go_wp2
    exact bodyPostM_ret1 (v := .bool false) hK (by simp [results, Tryd.f12, go_sem]) rfl ⟨by rw [hall]; simp, below_putObj hB hK (by have := hBW.size; omega)⟩

theorem right_any (v : Value) (L : List BLab) (w : World) (hL : LabelsAt w.heap.size w v L) :
    Calls Tryd.prog 12 #[v] w fun e w' => e = .returned (.bool (rightA L)) ∧ Below w.heap.size w w' := by
  obtain ⟨n1, n2, ⟨a, rfl, rfl⟩ | ⟨a, off, cap, rfl, n3, n4, n5⟩⟩ := id hL
  · exact right_none a 0 [] w rfl hL
  · by_cases h0 : L.length = 0
    · obtain rfl : L = [] := List.eq_nil_of_length_eq_zero h0
      exact right_none _ cap [] w rfl hL
    · by_cases h6 : L.length ≤ 6
      · exact right_in a off cap L w n1 h6 (by omega) n4 n3 n5
      · exact right_many a off cap L w n1 (by omega) n2 n4 n3 n5
end Go.Proofs.YtjhdgpboofcelaaDoor
