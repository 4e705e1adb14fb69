/- Package scope: Means. -/
import Derived.Test.YtjhdgpboofcelaaDoorSI
import Derived.Test.YtjhdgpboofcelaaDoorE5
namespace Go.Proofs.YtjhdgpboofcelaaDoor
open Go.RowKit
attribute [local go_sem] Oper.semAt_some

theorem scopeRight_any (s : ByteArray) (w : World) (hs : s.size ≤ 1000000) :
    Calls Tryd.prog 11 #[.string s] w fun e w' => e = .returned (.bool (rightSA s.data.toList)) ∧ Below w.heap.size w w' := by
  by_cases h0 : s.data.toList = []
  · have e : rightSA s.data.toList = true := by rw [h0]; rfl
    rw [e]
    exact scopeRight_none s w h0
  · have e : rightSA s.data.toList = termsOk (termsA s.data.toList) := by
      unfold rightSA
      cases hl : s.data.toList with
      | nil => exact absurd hl h0
      | cons c l => rfl
    rw [e]
    exact scopeRight_some s w hs h0
/-- Does a term mean labels? -/
def meansT (L : List BLab) (x : List UInt8 × List UInt8) : Bool := match getA L ⟨x.1.toArray⟩ with
  | none => false
  | some v => fitsA x.2 v.data.toList
/-- What Means tells. -/
def meansA (l : List UInt8) (L : List BLab) : Bool × Int := if rightSA l && rightA L then (l.isEmpty || (termsA l).all (meansT L), 0) else (false, 50)
abbrev MeansV (r : Bool × Int) : Value := .tuple #[.bool r.1, .int .i64 r.2]
/-- The two results, stored. -/
theorem means_out {k j n0 : Nat} {w X : World} {a c : Value} (b : Bool) (n : Int) (r1 : RowAt X k 4 [a]) (r2 : RowAt X j 31 [c]) (hkj : k ≠ j) (hb : Below n0 w X) (hk : n0 ≤ k) (hj : n0 ≤ j) :
    RowAt ((X.setCell ⟨k, 0, none⟩ (.bool b)).setCell ⟨j, 0, none⟩ (.int .i64 n)) k 4 [.bool b] ∧ RowAt ((X.setCell ⟨k, 0, none⟩ (.bool b)).setCell ⟨j, 0, none⟩ (.int .i64 n)) j 31 [.int .i64 n] ∧ Below n0 w ((X.setCell ⟨k, 0, none⟩ (.bool b)).setCell ⟨j, 0, none⟩ (.int .i64 n)) :=
  ⟨(r1.set 0 (.bool b)).setOther ⟨j, 0, none⟩ _ hkj, (r2.setOther ⟨k, 0, none⟩ _ (Ne.symm hkj)).set 0 (.int .i64 n), (hb.setCell (by exact hk) _).setCell (by exact hj) _⟩
set_option maxRecDepth 100000 in
set_option maxHeartbeats 4000000 in
theorem means_wrong (s : ByteArray) (v : Value) (L : List BLab) (w : World) (hs : s.size ≤ 1000000) (hL : LabelsAt w.heap.size w v L) (h0 : (rightSA s.data.toList && rightA L) = false) :
    Calls Tryd.prog 10 #[.string s, v] w fun e w' => e = .returned (MeansV (false, 50)) ∧ Below w.heap.size w w' := by
  have hR := fun W => scopeRight_any s W hs
  have hLR := fun W (hb : Below w.heap.size w W) => right_any v L W (hL.at_ hb)
  obtain ⟨p, cap, rfl, -⟩ := (hL.form).2
  generalize rightSA s.data.toList = r at *
  generalize rightA L = lr at *
  cases r
  · refine calls_of_marks Tryd.func10 rfl ?_
    simp only [Tryd.ntmps10, List.size_toArray, List.length_cons, List.length_nil, Nat.reduceAdd, Nat.reduceSub, Array.replicate_succ, Array.replicate_zero, List.push_toArray, List.append_toArray, List.nil_append, List.cons_append]
    go_wp2_with fail
    refine Calls.named (fun W hW => ?_)
    have hBW : Below w.heap.size w W := by rw [hW]; exact (by repeat (first | exact Below.refl _ _ | assumption | (refine Below.setCell ?_ (by (first | omega | (simp; done) | (simp; omega) | (simp at *; omega))) _) | (refine Below.alloc ?_ (by (first | omega | (simp; done) | (simp; omega) | (simp at *; omega))) _) | (refine Below.drew ?_) | (refine Gr.into _ ?_ (by (first | omega | (simp; done) | (simp; omega) | (simp at *; omega))))))
    have lb : RowAt W (w.heap.size) 29 [.slice p L.length cap] := by rw [hW]; exact (by repeat (first | assumption | exact RowAt.new_at _ _ _ _ (by (first | omega | (simp; done) | (simp; omega) | (simp at *; omega))) | (refine RowAt.alloc ?_ _) | (refine RowAt.gr ?_ _) | (refine RowAt.setOther ?_ _ _ (by (first | omega | (simp; done) | (simp; omega) | (simp at *; omega)))) | (refine RowAt.drew ?_)))
    have ob : RowAt W (w.heap.size + 1) 4 [.bool false] := by rw [hW]; exact (by repeat (first | assumption | exact RowAt.new_at _ _ _ _ (by (first | omega | (simp; done) | (simp; omega) | (simp at *; omega))) | (refine RowAt.alloc ?_ _) | (refine RowAt.gr ?_ _) | (refine RowAt.setOther ?_ _ _ (by (first | omega | (simp; done) | (simp; omega) | (simp at *; omega)))) | (refine RowAt.drew ?_)))
    have eb : RowAt W (w.heap.size + 2) 31 [.int .i64 0] := by rw [hW]; exact (by repeat (first | assumption | exact RowAt.new_at _ _ _ _ (by (first | omega | (simp; done) | (simp; omega) | (simp at *; omega))) | (refine RowAt.alloc ?_ _) | (refine RowAt.gr ?_ _) | (refine RowAt.setOther ?_ _ _ (by (first | omega | (simp; done) | (simp; omega) | (simp at *; omega)))) | (refine RowAt.drew ?_)))
    clear hW
    obtain ⟨lbc0, lbf0, lbl⟩ := lb.one
    obtain ⟨obc0, obf0, obl⟩ := ob.one
    obtain ⟨ebc0, ebf0, ebl⟩ := eb.one
    refine (hR _).mono ?_
    rintro e w1 ⟨rfl, hB1⟩
    have hW1 : Below w.heap.size w w1 := hBW.trans (hB1.mono hBW.size)
    obtain ⟨o0, o1, o2⟩ := (ob.below hB1 ob.lt).one
    obtain ⟨e0, e1, e2⟩ := (eb.below hB1 eb.lt).one
    go_wp2_with fail
    obtain ⟨q1, q2, q3⟩ := means_out false 50 (ob.below hB1 ob.lt) (eb.below hB1 eb.lt) (by omega) hW1 (by omega) (by omega)
    obtain ⟨s0, s1, s2⟩ := q1.one
    obtain ⟨t0, t1, t2⟩ := q2.one
    exact bodyPostM_ret (v := MeansV (false, 50)) (by simp [results, Tryd.f10, go_sem, s0, t0]) rfl ⟨rfl, q3⟩
  · cases lr
    · refine calls_of_marks Tryd.func10 rfl ?_
      simp only [Tryd.ntmps10, List.size_toArray, List.length_cons, List.length_nil, Nat.reduceAdd, Nat.reduceSub, Array.replicate_succ, Array.replicate_zero, List.push_toArray, List.append_toArray, List.nil_append, List.cons_append]
      go_wp2_with fail
      refine Calls.named (fun W hW => ?_)
      have hBW : Below w.heap.size w W := by rw [hW]; exact (by repeat (first | exact Below.refl _ _ | assumption | (refine Below.setCell ?_ (by (first | omega | (simp; done) | (simp; omega) | (simp at *; omega))) _) | (refine Below.alloc ?_ (by (first | omega | (simp; done) | (simp; omega) | (simp at *; omega))) _) | (refine Below.drew ?_) | (refine Gr.into _ ?_ (by (first | omega | (simp; done) | (simp; omega) | (simp at *; omega))))))
      have lb : RowAt W (w.heap.size) 29 [.slice p L.length cap] := by rw [hW]; exact (by repeat (first | assumption | exact RowAt.new_at _ _ _ _ (by (first | omega | (simp; done) | (simp; omega) | (simp at *; omega))) | (refine RowAt.alloc ?_ _) | (refine RowAt.gr ?_ _) | (refine RowAt.setOther ?_ _ _ (by (first | omega | (simp; done) | (simp; omega) | (simp at *; omega)))) | (refine RowAt.drew ?_)))
      have ob : RowAt W (w.heap.size + 1) 4 [.bool false] := by rw [hW]; exact (by repeat (first | assumption | exact RowAt.new_at _ _ _ _ (by (first | omega | (simp; done) | (simp; omega) | (simp at *; omega))) | (refine RowAt.alloc ?_ _) | (refine RowAt.gr ?_ _) | (refine RowAt.setOther ?_ _ _ (by (first | omega | (simp; done) | (simp; omega) | (simp at *; omega)))) | (refine RowAt.drew ?_)))
      have eb : RowAt W (w.heap.size + 2) 31 [.int .i64 0] := by rw [hW]; exact (by repeat (first | assumption | exact RowAt.new_at _ _ _ _ (by (first | omega | (simp; done) | (simp; omega) | (simp at *; omega))) | (refine RowAt.alloc ?_ _) | (refine RowAt.gr ?_ _) | (refine RowAt.setOther ?_ _ _ (by (first | omega | (simp; done) | (simp; omega) | (simp at *; omega)))) | (refine RowAt.drew ?_)))
      clear hW
      obtain ⟨lbc0, lbf0, lbl⟩ := lb.one
      obtain ⟨obc0, obf0, obl⟩ := ob.one
      obtain ⟨ebc0, ebf0, ebl⟩ := eb.one
      refine (hR _).mono ?_
      rintro e w1 ⟨rfl, hB1⟩
      have hW1 : Below w.heap.size w w1 := hBW.trans (hB1.mono hBW.size)
      obtain ⟨c0, c1, c2⟩ := (lb.below hB1 lb.lt).one
      have hLr := hLR w1 hW1
      clear lbc0 lbf0 lbl obc0 obf0 obl ebc0 ebf0 ebl
      go_wp2_with fail
      refine hLr.mono ?_
      rintro e w2 ⟨rfl, hB2⟩
      have hB12 : Below W.heap.size W w2 := hB1.trans (hB2.mono hB1.size)
      have hW2 : Below w.heap.size w w2 := hBW.trans (hB12.mono hBW.size)
      obtain ⟨o0, o1, o2⟩ := (ob.below hB12 ob.lt).one
      obtain ⟨e0, e1, e2⟩ := (eb.below hB12 eb.lt).one
      go_wp2_with fail
      obtain ⟨q1, q2, q3⟩ := means_out false 50 (ob.below hB12 ob.lt) (eb.below hB12 eb.lt) (by omega) hW2 (by omega) (by omega)
      obtain ⟨s0, s1, s2⟩ := q1.one
      obtain ⟨t0, t1, t2⟩ := q2.one
      exact bodyPostM_ret (v := MeansV (false, 50)) (by simp [results, Tryd.f10, go_sem, s0, t0]) rfl ⟨rfl, q3⟩
    · cases h0
end Go.Proofs.YtjhdgpboofcelaaDoor
