/- Package scope: Means of scopes and sets. -/
import Derived.Test.YtjhdgpboofcelaaDoorSK
namespace Go.Proofs.YtjhdgpboofcelaaDoor
open Go.RowKit
attribute [local go_sem] Oper.semAt_some

set_option maxRecDepth 100000 in
set_option maxHeartbeats 4000000 in
theorem means_empty (s : ByteArray) (v : Value) (L : List BLab) (w : World) (hs : s.size ≤ 1000000) (hL : LabelsAt w.heap.size w v L) (h1 : rightSA s.data.toList = true) (h2 : rightA L = true) (h0 : s.data.toList = []) :
    Calls Tryd.prog 10 #[.string s, v] w fun e w' => e = .returned (MeansV (true, 0)) ∧ Below w.heap.size w w' := by
  have hR := fun W => scopeRight_any s W hs
  have hLR := fun W (hb : Below w.heap.size w W) => right_any v L W (hL.at_ hb)
  obtain ⟨p, cap, rfl, -⟩ := (hL.form).2
  rw [h1] at hR
  rw [h2] at hLR
  obtain rfl : s = ⟨#[]⟩ := by
    apply ByteArray.ext
    apply Array.toList_inj.1
    exact h0
  refine calls_of_marks Tryd.func10 rfl ?_
  simp only [Tryd.ntmps10, List.size_toArray, List.length_cons, List.length_nil, Nat.reduceAdd, Nat.reduceSub, Array.replicate_succ, Array.replicate_zero, List.push_toArray, List.append_toArray, List.nil_append, List.cons_append]
  go_wp2_with fail
  refine Calls.named (fun W hW => ?_)
  have hBW : Below w.heap.size w W := by rw [hW]; exact (by repeat (first | exact Below.refl _ _ | assumption | (refine Below.setCell ?_ (by (first | omega | (simp; done) | (simp; omega) | (simp at *; omega))) _) | (refine Below.alloc ?_ (by (first | omega | (simp; done) | (simp; omega) | (simp at *; omega))) _) | (refine Below.drew ?_) | (refine Gr.into _ ?_ (by (first | omega | (simp; done) | (simp; omega) | (simp at *; omega))))))
  have lb : RowAt W (w.heap.size) 29 [.slice p L.length cap] := by rw [hW]; exact (by repeat (first | assumption | exact RowAt.new_at _ _ _ _ (by (first | omega | (simp; done) | (simp; omega) | (simp at *; omega))) | (refine RowAt.alloc ?_ _) | (refine RowAt.gr ?_ _) | (refine RowAt.setOther ?_ _ _ (by (first | omega | (simp; done) | (simp; omega) | (simp at *; omega)))) | (refine RowAt.drew ?_)))
  have ob : RowAt W (w.heap.size + 1) 4 [.bool false] := by rw [hW]; exact (by repeat (first | assumption | exact RowAt.new_at _ _ _ _ (by (first | omega | (simp; done) | (simp; omega) | (simp at *; omega))) | (refine RowAt.alloc ?_ _) | (refine RowAt.gr ?_ _) | (refine RowAt.setOther ?_ _ _ (by (first | omega | (simp; done) | (simp; omega) | (simp at *; omega)))) | (refine RowAt.drew ?_)))
  have eb : RowAt W (w.heap.size + 2) 31 [.int .i64 0] := by rw [hW]; exact (by repeat (first | assumption | exact RowAt.new_at _ _ _ _ (by (first | omega | (simp; done) | (simp; omega) | (simp at *; omega))) | (refine RowAt.alloc ?_ _) | (refine RowAt.gr ?_ _) | (refine RowAt.setOther ?_ _ _ (by (first | omega | (simp; done) | (simp; omega) | (simp at *; omega)))) | (refine RowAt.drew ?_)))
  clear hW
  obtain ⟨lbc0, lbf0, lbl⟩ := lb.one
  obtain ⟨obc0, obf0, obl⟩ := ob.one
  obtain ⟨ebc0, ebf0, ebl⟩ := eb.one
  refine (hR _).mono ?_
  rintro e w1 ⟨rfl, hB1⟩
  have hW1 : Below w.heap.size w w1 := hBW.trans (hB1.mono hBW.size)
  obtain ⟨c0, c1, c2⟩ := (lb.below hB1 lb.lt).one
  have hLr := hLR w1 hW1
  clear lbc0 lbf0 lbl obc0 obf0 obl ebc0 ebf0 ebl
  go_wp2_with fail
  refine hLr.mono ?_
  rintro e w2 ⟨rfl, hB2⟩
  have hB12 : Below W.heap.size W w2 := hB1.trans (hB2.mono hB1.size)
  have hW2 : Below w.heap.size w w2 := hBW.trans (hB12.mono hBW.size)
  obtain ⟨o0, o1, o2⟩ := (ob.below hB12 ob.lt).one
  obtain ⟨e0, e1, e2⟩ := (eb.below hB12 eb.lt).one
  go_wp2_with fail
  obtain ⟨q1, q2, q3⟩ := means_out true 0 (ob.below hB12 ob.lt) (eb.below hB12 eb.lt) (by omega) hW2 (by omega) (by omega)
  obtain ⟨s0, s1, s2⟩ := q1.one
  obtain ⟨t0, t1, t2⟩ := q2.one
  exact bodyPostM_ret (v := MeansV (true, 0)) (by simp [results, Tryd.f10, go_sem, s0, t0]) rfl ⟨rfl, q3⟩
/-- The results' places as they began. -/
def MeansAt (n0 : Nat) (w X : World) : Prop := RowAt X (n0 + 1) 4 [.bool false] ∧ RowAt X (n0 + 2) 31 [.int .i64 0] ∧ Below n0 w X
theorem meansAt_turn {β : Type} {B : Nat} {w : World} {T : Nat → Prop} (hB : w.heap.size ≤ B) (hB2 : w.heap.size + 3 ≤ B) (hT : ∀ r, T r → w.heap.size + 3 ≤ r) : OwnTurn (β := β) B T (fun _ X => MeansAt w.heap.size w X) :=
  fun s X Y row ⟨h1, h2, h3⟩ hg hr => ⟨h1.turn hg hr (fun h => by have := hT _ h; omega), h2.turn hg hr (fun h => by have := hT _ h; omega), ownTurn_below (β := Unit) (Nat.le_refl _) hB (fun r h => by have := hT r h; omega) () X Y row h3 hg hr⟩
set_option maxRecDepth 100000 in
set_option maxHeartbeats 4000000 in
theorem means_some (s : ByteArray) (v : Value) (L : List BLab) (w : World) (hs : s.size ≤ 1000000) (hL : LabelsAt w.heap.size w v L) (hv : ∀ x ∈ L, x.2.size ≤ 10000) (h1 : rightSA s.data.toList = true) (h2 : rightA L = true) (h0 : s.data.toList ≠ []) :
    Calls Tryd.prog 10 #[.string s, v] w fun e w' => e = .returned (MeansV ((termsA s.data.toList).all (meansT L), 0)) ∧ Below w.heap.size w w' := by
  have hR := fun W => scopeRight_any s W hs
  have hLR := fun W (hb : Below w.heap.size w W) => right_any v L W (hL.at_ hb)
  have hA : AllS (splitA s.data.toList) := splitA_all _ _ (Nat.le_refl _) (by rw [data_length]; exact hs)
  have hne : s.toList.isEmpty = false := by
    rw [Lib.toList_data]
    simpa using h0
  obtain ⟨p, cap, rfl, -⟩ := (hL.form).2
  rw [h1] at hR
  rw [h2] at hLR
  refine calls_of_marks Tryd.func10 rfl ?_
  simp only [Tryd.ntmps10, List.size_toArray, List.length_cons, List.length_nil, Nat.reduceAdd, Nat.reduceSub, Array.replicate_succ, Array.replicate_zero, List.push_toArray, List.append_toArray, List.nil_append, List.cons_append]
  go_wp2_with fail
  refine Calls.named (fun W hW => ?_)
  have hBW : Below w.heap.size w W := by rw [hW]; exact (by repeat (first | exact Below.refl _ _ | assumption | (refine Below.setCell ?_ (by (first | omega | (simp; done) | (simp; omega) | (simp at *; omega))) _) | (refine Below.alloc ?_ (by (first | omega | (simp; done) | (simp; omega) | (simp at *; omega))) _) | (refine Below.drew ?_) | (refine Gr.into _ ?_ (by (first | omega | (simp; done) | (simp; omega) | (simp at *; omega))))))
  have lb : RowAt W (w.heap.size) 29 [.slice p L.length cap] := by rw [hW]; exact (by repeat (first | assumption | exact RowAt.new_at _ _ _ _ (by (first | omega | (simp; done) | (simp; omega) | (simp at *; omega))) | (refine RowAt.alloc ?_ _) | (refine RowAt.gr ?_ _) | (refine RowAt.setOther ?_ _ _ (by (first | omega | (simp; done) | (simp; omega) | (simp at *; omega)))) | (refine RowAt.drew ?_)))
  have ob : RowAt W (w.heap.size + 1) 4 [.bool false] := by rw [hW]; exact (by repeat (first | assumption | exact RowAt.new_at _ _ _ _ (by (first | omega | (simp; done) | (simp; omega) | (simp at *; omega))) | (refine RowAt.alloc ?_ _) | (refine RowAt.gr ?_ _) | (refine RowAt.setOther ?_ _ _ (by (first | omega | (simp; done) | (simp; omega) | (simp at *; omega)))) | (refine RowAt.drew ?_)))
  have eb : RowAt W (w.heap.size + 2) 31 [.int .i64 0] := by rw [hW]; exact (by repeat (first | assumption | exact RowAt.new_at _ _ _ _ (by (first | omega | (simp; done) | (simp; omega) | (simp at *; omega))) | (refine RowAt.alloc ?_ _) | (refine RowAt.gr ?_ _) | (refine RowAt.setOther ?_ _ _ (by (first | omega | (simp; done) | (simp; omega) | (simp at *; omega)))) | (refine RowAt.drew ?_)))
  clear hW
  obtain ⟨lbc0, lbf0, lbl⟩ := lb.one
  obtain ⟨obc0, obf0, obl⟩ := ob.one
  obtain ⟨ebc0, ebf0, ebl⟩ := eb.one
  refine (hR _).mono ?_
  rintro e w1 ⟨rfl, hB1⟩
  have hW1 : Below w.heap.size w w1 := hBW.trans (hB1.mono hBW.size)
  obtain ⟨c0, c1, c2⟩ := (lb.below hB1 lb.lt).one
  have hLr := hLR w1 hW1
  clear lbc0 lbf0 lbl obc0 obf0 obl ebc0 ebf0 ebl
  go_wp2_with fail
  refine hLr.mono ?_
  rintro e w2 ⟨rfl, hB2⟩
  have hB12 : Below W.heap.size W w2 := hB1.trans (hB2.mono hB1.size)
  have hW2 : Below w.heap.size w w2 := hBW.trans (hB12.mono hBW.size)
  clear c0 c1 c2 hLr hR hLR
  have lb2 := lb.below hB12 lb.lt
  have ob2 := ob.below hB12 ob.lt
  have eb2 := eb.below hB12 eb.lt
  have hLw := hL.at_ hW2
  have hs2 := hW2.size
  clear hB1 hB2 hB12 hW1 hBW lb ob eb
  have hsz : w.heap.size + 3 ≤ w2.heap.size := by have := eb2.lt; omega
  clear W
  go_wp2_with fail
  refine (terms_any _ _).mono ?_
  rintro e X ⟨rfl, rfl⟩
  have bx : RowAt (w2.alloc (.cells #[.string s] 9)) w2.heap.size 9 [.string s] := RowAt.of_new _ _ _
  have lb3 := lb2.alloc (.cells #[.string s] 9)
  have ob3 := ob2.alloc (.cells #[.string s] 9)
  have eb3 := eb2.alloc (.cells #[.string s] 9)
  have hW3 := hW2.alloc hs2 (.cells #[.string s] 9)
  have hsz3 : w2.heap.size + 1 = (w2.alloc (.cells #[.string s] 9)).heap.size := by simp
  generalize w2.alloc (.cells #[.string s] 9) = V at *
  go_wp2_with fail
  refine (wpIn_wide (n := 9)).1 ?_
  refine wpIn_rangeFunc_turn (F := Fence.wide) (n := 9) rfl (by omega) (gf := 29) (lb := #[.pointer (some ⟨w2.heap.size, 0, none⟩)]) rfl trivial
    (enters_of Tryd.func29 (by kernel_rfl) rfl)
    (terms_stops 8 w2.heap.size s V bx hs hA (by omega)) (by rintro r rfl; omega) KeptAt.trans (fun X l' o o' h1 h2 _ _ _ => fun k hk => World.putObj_heap_other (by have := hk.1; omega)) (Below.refl _ _) (fun _ => rfl)
    (fun pre X => RowAt X w.heap.size 29 [.slice p L.length cap] ∧ MeansAt w.heap.size w X ∧ (pre.all fun x => meansT L x.1) = true)
    (fun c pre X => MeansAt w.heap.size w X ∧ (pre.all fun x => meansT L x.1) = false ∧ c = Code.ret)
    (OwnTurn.and (fun pre X Y row h hg hr => h.turn hg hr (by omega)) (OwnTurn.and (meansAt_turn (by omega) (by omega) (by rintro r rfl; omega)) (ownTurn_pure _ _ _)))
    (fun c => OwnTurn.and (meansAt_turn (by omega) (by omega) (by rintro r rfl; omega)) (ownTurn_pure _ _ _))
    ⟨lb3, ⟨ob3, eb3, hW3⟩, rfl⟩
    (fun x a' _ => a' = { tmps := #[.string s, .slice p L.length cap, undef, .pointer (some ⟨w.heap.size, 0, none⟩), .pointer (some ⟨w.heap.size + 1, 0, none⟩), .pointer (some ⟨w.heap.size + 1 + 1, 0, none⟩), .string ⟨x.1.1.toArray⟩, .string ⟨x.1.2.toArray⟩, undef, undef, .bool false, .string s, .bool true, .bool false, .bool false, .slice p L.length cap, .bool true, .bool false, .bool false, .bool false, .string s, .bool false, .string s, .func (.func 29) #[] #[.pointer (some ⟨w2.heap.size, 0, none⟩)], .string ⟨x.1.1.toArray⟩, .string ⟨x.1.2.toArray⟩, undef, undef, undef, undef, undef, undef, undef, undef, undef, undef, undef, undef, undef, undef], defers := [] })
    (fun x a' => ownTurn_pure _ _ _)
    ?assign ?body ?done ?stop
  case assign =>
    rintro l' pre x X K hsz hI hK
    gi_wp2
    exact hK _ _ (KeepsFrom.refl _ _) (fun _ _ => rfl) hI rfl
  case body =>
    rintro l' pre ⟨⟨nm, pt⟩, hx1, hx2⟩ a' X hl' hr hsz ⟨rl, ⟨ro, re, hb⟩, hall⟩ rfl hlt
    obtain ⟨c0, c1, c2⟩ := rl.one
    have hget := fun Z (hZ : Below w.heap.size w Z) => get_any (.slice p L.length cap) L ⟨nm.toArray⟩ Z (hL.at_ hZ)
    have hmt : meansT L (nm, pt) = match getA L ⟨nm.toArray⟩ with
      | none => false
      | some v => fitsA pt v.data.toList := rfl
    have hvs : ∀ v, getA L ⟨nm.toArray⟩ = some v → v.size ≤ 10000 := fun v h => by
      unfold getA at h
      obtain ⟨x, hx, rfl⟩ := Option.map_eq_some_iff.1 h
      exact hv x (List.mem_of_find?_eq_some hx)
    have HGET := Lib.hid hget
    simp only
    clear hget
    cases hg : getA L ⟨nm.toArray⟩ with
    | none =>
      rw [hg] at hmt HGET
      simp only at hmt
      gi_wp2
      refine ⟨trivial, (CallsIn.inRound l' (callsIn_wide.2 (HGET.out X hb))).mono ?_⟩
      rintro e X2 ⟨rfl, hB2⟩
      simp only [GetV]
      have hb2 : Below w.heap.size w X2 := hb.trans (hB2.mono (by omega))
      obtain ⟨o0, o1, o2⟩ := (ro.below hB2 ro.lt).one
      obtain ⟨e0, e1, e2⟩ := (re.below hB2 re.lt).one
      have hO := means_out false 0 (ro.below hB2 ro.lt) (re.below hB2 re.lt) (by omega) hb2 (by omega) (by omega)
      gi_wp2
      refine ⟨trivial, ?_⟩
      gi_wp2
      obtain ⟨q1, q2, q3⟩ := hO
      exact ⟨((keepsFrom_below hB2 : KeepsFrom V.heap.size X X2).trans ((KeepsOthers.setCell _ _ _).from _)).trans ((KeepsOthers.setCell _ _ _).from _), ⟨q1, q2, q3⟩, by rw [List.all_append]; simp [hmt], rfl⟩
    | some v =>
      rw [hg] at hmt HGET
      simp only at hmt
      have hfit := fun Z => fits_any ⟨pt.toArray⟩ v Z (by show pt.toArray.size ≤ _; simpa using hx2) (hvs v hg)
      have hd2 : (⟨pt.toArray⟩ : ByteArray).data.toList = pt := rfl
      rw [hd2, ← hmt] at hfit
      obtain ⟨fit, hfi⟩ : ∃ fit, meansT L (nm, pt) = fit := ⟨_, rfl⟩
      rw [hfi] at hfit
      clear hmt
      gi_wp2
      refine ⟨trivial, (CallsIn.inRound l' (callsIn_wide.2 (HGET.out X hb))).mono ?_⟩
      rintro e X2 ⟨rfl, hB2⟩
      simp only [GetV]
      have hs2b := hB2.size
      gi_wp2
      refine ⟨trivial, (CallsIn.inRound l' (callsIn_wide.2 (hfit _))).mono ?_⟩
      rintro e X3 ⟨rfl, hB3⟩
      have hB23 : Below X.heap.size X X3 := hB2.trans (hB3.mono hs2b)
      have hb3 : Below w.heap.size w X3 := hb.trans (hB23.mono (by omega))
      cases fit
      · obtain ⟨o0, o1, o2⟩ := (ro.below hB23 ro.lt).one
        obtain ⟨e0, e1, e2⟩ := (re.below hB23 re.lt).one
        have hO := means_out false 0 (ro.below hB23 ro.lt) (re.below hB23 re.lt) (by omega) hb3 (by omega) (by omega)
        gi_wp2
        obtain ⟨q1, q2, q3⟩ := hO
        exact ⟨((keepsFrom_below hB23 : KeepsFrom V.heap.size X X3).trans ((KeepsOthers.setCell _ _ _).from _)).trans ((KeepsOthers.setCell _ _ _).from _), ⟨q1, q2, q3⟩, by rw [List.all_append]; simp [hfi], rfl⟩
      · gi_wp2
        exact ⟨keepsFrom_below hB23, fun k hk => hB23.block k (by have := hk.2; omega), rl.below hB23 rl.lt, ⟨ro.below hB23 ro.lt, re.below hB23 re.lt, hb3⟩, by rw [List.all_append, hall]; simp [hfi]⟩
  case done =>
    rintro D xs X hD rfl ⟨-, ⟨ro, re, hb⟩, hall⟩ hK2
    subst hD
    obtain ⟨o0, o1, o2⟩ := ro.one
    obtain ⟨e0, e1, e2⟩ := re.one
    have hres : (termsA s.data.toList).all (meansT L) = true := by
      rw [← termsS s.data.toList hA, List.all_map]
      exact hall
    obtain ⟨q1, q2, q3⟩ := means_out true 0 ro re (by omega) hb (by omega) (by omega)
    have hD2 : ((X.setCell ⟨w.heap.size + 1, 0, none⟩ (.bool true)).setCell ⟨w.heap.size + 2, 0, none⟩ (.int .i64 0)).heap[V.heap.size]? = some (.deferred (some [])) := by
      rw [Below.heap_setCell _ _ _ _ (by show V.heap.size ≠ w.heap.size + 2; omega), Below.heap_setCell _ _ _ _ (by show V.heap.size ≠ w.heap.size + 1; omega)]
      exact hK2
    obtain ⟨s0, s1, s2⟩ := (q1.putObj (D := V.heap.size) (.deferred none) (by omega)).one
    obtain ⟨t0, t1, t2⟩ := (q2.putObj (D := V.heap.size) (.deferred none) (by omega)).one
    have HRES := Lib.hid hres
    clear hres hall
    go_wp2
    exact bodyPostM_ret1 (v := MeansV (true, 0)) hD2 (by simp [results, Tryd.f10, go_sem, s0, t0]) rfl ⟨by rw [HRES.out], below_putObj q3 hD2 (by omega)⟩
  case stop =>
    rintro D c pre X hD hpre ⟨⟨ro, re, hb⟩, hall, rfl⟩ hK2
    subst hD
    have hres : (termsA s.data.toList).all (meansT L) = false := by
      obtain ⟨t, ht⟩ := hpre
      rw [← termsS s.data.toList hA, ← ht, List.map_append, List.all_append, List.all_map]
      show (pre.all (fun x => meansT L x.1) && _) = false
      rw [hall]
      rfl
    obtain ⟨s0, s1, s2⟩ := (ro.putObj (D := V.heap.size) (.deferred none) (by omega)).one
    obtain ⟨t0, t1, t2⟩ := (re.putObj (D := V.heap.size) (.deferred none) (by omega)).one
    have HRES := Lib.hid hres
    clear hres hall
    gi_wp2
    exact bodyPostM_ret1 (v := MeansV (false, 0)) hK2 (by simp [results, Tryd.f10, go_sem, s0, t0]) rfl ⟨by rw [HRES.out], below_putObj hb hK2 (by omega)⟩
theorem means_any (s : ByteArray) (v : Value) (L : List BLab) (w : World) (hs : s.size ≤ 1000000) (hL : LabelsAt w.heap.size w v L) (hv : ∀ x ∈ L, x.2.size ≤ 10000) :
    Calls Tryd.prog 10 #[.string s, v] w fun e w' => e = .returned (MeansV (meansA s.data.toList L)) ∧ Below w.heap.size w w' := by
  cases h : (rightSA s.data.toList && rightA L)
  · have e : meansA s.data.toList L = (false, 50) := by unfold meansA; rw [h]; rfl
    rw [e]
    exact means_wrong s v L w hs hL h
  · have h1 : rightSA s.data.toList = true := by
      cases h2 : rightSA s.data.toList
      · rw [h2] at h; cases h
      · rfl
    have h2 : rightA L = true := by
      rw [h1] at h
      exact h
    have e : meansA s.data.toList L = (s.data.toList.isEmpty || (termsA s.data.toList).all (meansT L), 0) := by unfold meansA; rw [h, if_pos rfl]
    rw [e]
    by_cases h0 : s.data.toList = []
    · have e2 : (s.data.toList.isEmpty || (termsA s.data.toList).all (meansT L)) = true := by rw [h0]; rfl
      rw [e2]
      exact means_empty s v L w hs hL h1 h2 h0
    · have e2 : (s.data.toList.isEmpty || (termsA s.data.toList).all (meansT L)) = (termsA s.data.toList).all (meansT L) := by
        cases hl : s.data.toList with
        | nil => exact absurd hl h0
        | cons c l => rfl
      rw [e2]
      exact means_some s v L w hs hL hv h1 h2 h0
end Go.Proofs.YtjhdgpboofcelaaDoor
