/- Package hll's Merge. -/
import Derived.Test.YtngahohheleeeaaDoorA5
namespace Go.Proofs.YtngahohheleeeaaDoor
open Go.RowKit
attribute [local go_sem] Oper.semAt_some

theorem merge_no1 (b c : Int) (s t : ByteArray) (w : World) (h : rightB b s.data.toList = false) :
    Calls Tryd.prog 13 #[.agg #[.int .i64 b, .string s], .agg #[.int .i64 c, .string t]] w fun e w' => e = hllRes 0 ⟨#[]⟩ 70 ∧ Below w.heap.size w w' := by
  refine calls_of_marks Tryd.func13 rfl ?_
  simp only [Tryd.ntmps13, List.size_toArray, List.length_cons, List.length_nil, Nat.reduceAdd, Nat.reduceSub, Array.replicate_succ, Array.replicate_zero, List.push_toArray, List.append_toArray, List.nil_append, List.cons_append]
  go_wp2_with (first
    | (go_at_call 25; (first | (with_reducible refine Calls.mono (Calls.gr (start_no _ _ _ h)) ?_) | (refine Calls.mono (Calls.gr0 (start_no _ _ _ h)) ?_)); rintro e w' ⟨rfl, g, rfl⟩; have hgl := g.le; (try simp only [World.size_alloc] at hgl); (try simp only [World.size_setCell] at hgl)))
  refine Calls.named (fun W hW => ?_)
  have hBW : Below w.heap.size w W := by rw [hW]; exact (by repeat (first | exact Below.refl _ _ | assumption | (refine Below.setCell ?_ (by (first | omega | (simp; done) | (simp; omega) | (simp at *; omega))) _) | (refine Below.alloc ?_ (by (first | omega | (simp; done) | (simp; omega) | (simp at *; omega))) _) | (refine Below.drew ?_) | (refine Gr.into _ ?_ (by (first | omega | (simp; done) | (simp; omega) | (simp at *; omega))))))
  have r : RowAt W (w.heap.size + 1 + 1) 26 [.int .i64 0, .string ⟨#[]⟩] := by rw [hW]; exact (by repeat (first | assumption | exact RowAt.new_at _ _ _ _ (by (first | omega | (simp; done) | (simp; omega) | (simp at *; omega))) | (refine RowAt.alloc ?_ _) | (refine RowAt.gr ?_ _) | (refine RowAt.setOther ?_ _ _ (by (first | omega | (simp; done) | (simp; omega) | (simp at *; omega)))) | (refine RowAt.drew ?_)))
  clear hW
  obtain ⟨rc0, rc1, rf0, rf1, rl⟩ := r.two
  go_wp2_with (first
    | (go_at_call 21; (first | (with_reducible refine Calls.mono (Calls.gr (told_wrong _)) ?_) | (refine Calls.mono (Calls.gr0 (told_wrong _)) ?_)); rintro e w' ⟨rfl, g, rfl⟩; have hgl := g.le; (try simp only [World.size_alloc] at hgl); (try simp only [World.size_setCell] at hgl)))
  exact bodyPostM_ret (v := .tuple #[.agg #[.int .i64 0, .string ⟨#[]⟩], .int .i64 70]) (by simp [results, Tryd.f13, go_sem, rc0, rc1, rl]) rfl ⟨rfl, (by repeat (first | exact Below.refl _ _ | assumption | (refine Below.setCell ?_ (by (first | omega | (simp; done) | (simp; omega) | (simp at *; omega))) _) | (refine Below.alloc ?_ (by (first | omega | (simp; done) | (simp; omega) | (simp at *; omega))) _) | (refine Below.drew ?_) | (refine Gr.into _ ?_ (by (first | omega | (simp; done) | (simp; omega) | (simp at *; omega))))))⟩

theorem IsWork.gr {B : Nat} {w : World} {bw : Nat} {b : Int} {s : ByteArray} {l : List UInt8} (h : IsWork B w bw b s l) (g : Gr w) : IsWork B g.world bw b s l := by
  obtain ⟨br, cap, h1, h2, h3, h4, h5, h6⟩ := h
  exact ⟨br, cap, h1, h2, h3, h4, h5.gr g, h6.gr g⟩
theorem IsWork.lt {B : Nat} {w : World} {bw : Nat} {b : Int} {s : ByteArray} {l : List UInt8} (h : IsWork B w bw b s l) : bw < w.heap.size := by
  obtain ⟨br, cap, h1, h2, h3, h4, h5, h6⟩ := h
  exact h5.lt
theorem IsWork.alloc {B : Nat} {w : World} {bw : Nat} {b : Int} {s : ByteArray} {l : List UInt8} (h : IsWork B w bw b s l) (o : Obj) : IsWork B (w.alloc o) bw b s l := by
  obtain ⟨br, cap, h1, h2, h3, h4, h5, h6⟩ := h
  exact ⟨br, cap, h1, h2, h3, h4, h5.alloc o, h6.alloc o⟩
theorem IsWork.grown {w w' : World} {B bw : Nat} {b : Int} {s : ByteArray} {l : List UInt8} {row : Option Nat} (h : IsWork B w bw b s l) (hg : w.grownBy w' row) (hr : ∀ r, row = some r → ∃ o : Obj, w.heap[r]? = some o ∧ o.isCells = false) : IsWork B w' bw b s l := by
  obtain ⟨br, cap, h1, h2, h3, h4, h5, h6⟩ := h
  exact ⟨br, cap, h1, h2, h3, h4, h5.grown hg hr, h6.grown hg hr⟩
/-- Wrong registers in the second place, or of another number of digits. -/
theorem merge_no2 (b c : Int) (s t : ByteArray) (w : World) (h : rightB b s.data.toList = true) (h2 : rightB c t.data.toList = false ∨ (b != c) = true) :
    Calls Tryd.prog 13 #[.agg #[.int .i64 b, .string s], .agg #[.int .i64 c, .string t]] w fun e w' => e = hllRes 0 ⟨#[]⟩ 70 ∧ Below w.heap.size w w' := by
  rcases h3 : rightB c t.data.toList with _ | _
  · refine calls_of_marks Tryd.func13 rfl ?_
    simp only [Tryd.ntmps13, List.size_toArray, List.length_cons, List.length_nil, Nat.reduceAdd, Nat.reduceSub, Array.replicate_succ, Array.replicate_zero, List.push_toArray, List.append_toArray, List.nil_append, List.cons_append]
    go_wp2_with (first
      | (go_at_call 25; refine Calls.mono (start_yes _ _ _ h) ?_; rintro e w' ⟨bw, rfl, hb1, hw1⟩; obtain ⟨g, rfl⟩ := Gr.of hb1; have hgl := g.le; clear hb1 hw1; (try simp only [World.size_alloc] at hgl)))
    refine Calls.named (fun W hW => ?_)
    have hBW : Below w.heap.size w W := by rw [hW]; exact (by repeat (first | exact Below.refl _ _ | assumption | (refine Below.setCell ?_ (by (first | omega | (simp; done) | (simp; omega) | (simp at *; omega))) _) | (refine Below.alloc ?_ (by (first | omega | (simp; done) | (simp; omega) | (simp at *; omega))) _) | (refine Below.drew ?_) | (refine Gr.into _ ?_ (by (first | omega | (simp; done) | (simp; omega) | (simp at *; omega))))))
    have y : RowAt W (w.heap.size + 1) 26 [.int .i64 c, .string t] := by rw [hW]; exact (by repeat (first | assumption | exact RowAt.new_at _ _ _ _ (by (first | omega | (simp; done) | (simp; omega) | (simp at *; omega))) | (refine RowAt.alloc ?_ _) | (refine RowAt.gr ?_ _) | (refine RowAt.setOther ?_ _ _ (by (first | omega | (simp; done) | (simp; omega) | (simp at *; omega)))) | (refine RowAt.drew ?_)))
    have r : RowAt W (w.heap.size + 1 + 1) 26 [.int .i64 0, .string ⟨#[]⟩] := by rw [hW]; exact (by repeat (first | assumption | exact RowAt.new_at _ _ _ _ (by (first | omega | (simp; done) | (simp; omega) | (simp at *; omega))) | (refine RowAt.alloc ?_ _) | (refine RowAt.gr ?_ _) | (refine RowAt.setOther ?_ _ _ (by (first | omega | (simp; done) | (simp; omega) | (simp at *; omega)))) | (refine RowAt.drew ?_)))
    clear hW
    obtain ⟨yc0, yc1, yf0, yf1, yl⟩ := y.two
    obtain ⟨rc0, rc1, rf0, rf1, rl⟩ := r.two
    go_wp2_with (first
      | (go_at_call 11; (first | (with_reducible refine Calls.mono (Calls.gr (right_any _ _ _)) ?_) | (refine Calls.mono (Calls.gr0 (right_any _ _ _)) ?_)); rintro e w' ⟨rfl, g, rfl⟩; have hgl := g.le; (try simp only [World.size_alloc] at hgl); (try simp only [World.size_setCell] at hgl))
      | (go_at_call 21; (first | (with_reducible refine Calls.mono (Calls.gr (told_wrong _)) ?_) | (refine Calls.mono (Calls.gr0 (told_wrong _)) ?_)); rintro e w' ⟨rfl, g, rfl⟩; have hgl := g.le; (try simp only [World.size_alloc] at hgl); (try simp only [World.size_setCell] at hgl)))
    exact bodyPostM_ret (v := .tuple #[.agg #[.int .i64 0, .string ⟨#[]⟩], .int .i64 70]) (by simp [results, Tryd.f13, go_sem, rc0, rc1, rl]) rfl ⟨rfl, (by repeat (first | exact Below.refl _ _ | assumption | (refine Below.setCell ?_ (by (first | omega | (simp; done) | (simp; omega) | (simp at *; omega))) _) | (refine Below.alloc ?_ (by (first | omega | (simp; done) | (simp; omega) | (simp at *; omega))) _) | (refine Below.drew ?_) | (refine Gr.into _ ?_ (by (first | omega | (simp; done) | (simp; omega) | (simp at *; omega))))))⟩
  · have h4 : (b != c) = true := by simpa [h3] using h2
    clear h2
    refine calls_of_marks Tryd.func13 rfl ?_
    simp only [Tryd.ntmps13, List.size_toArray, List.length_cons, List.length_nil, Nat.reduceAdd, Nat.reduceSub, Array.replicate_succ, Array.replicate_zero, List.push_toArray, List.append_toArray, List.nil_append, List.cons_append]
    go_wp2_with (first
      | (go_at_call 25; refine Calls.mono (start_yes _ _ _ h) ?_; rintro e w' ⟨bw, rfl, hb1, hw1⟩; obtain ⟨g, rfl⟩ := Gr.of hb1; have hgl := g.le; clear hb1 hw1; (try simp only [World.size_alloc] at hgl)))
    refine Calls.named (fun W hW => ?_)
    have hBW : Below w.heap.size w W := by rw [hW]; exact (by repeat (first | exact Below.refl _ _ | assumption | (refine Below.setCell ?_ (by (first | omega | (simp; done) | (simp; omega) | (simp at *; omega))) _) | (refine Below.alloc ?_ (by (first | omega | (simp; done) | (simp; omega) | (simp at *; omega))) _) | (refine Below.drew ?_) | (refine Gr.into _ ?_ (by (first | omega | (simp; done) | (simp; omega) | (simp at *; omega))))))
    have x : RowAt W (w.heap.size) 26 [.int .i64 b, .string s] := by rw [hW]; exact (by repeat (first | assumption | exact RowAt.new_at _ _ _ _ (by (first | omega | (simp; done) | (simp; omega) | (simp at *; omega))) | (refine RowAt.alloc ?_ _) | (refine RowAt.gr ?_ _) | (refine RowAt.setOther ?_ _ _ (by (first | omega | (simp; done) | (simp; omega) | (simp at *; omega)))) | (refine RowAt.drew ?_)))
    have y : RowAt W (w.heap.size + 1) 26 [.int .i64 c, .string t] := by rw [hW]; exact (by repeat (first | assumption | exact RowAt.new_at _ _ _ _ (by (first | omega | (simp; done) | (simp; omega) | (simp at *; omega))) | (refine RowAt.alloc ?_ _) | (refine RowAt.gr ?_ _) | (refine RowAt.setOther ?_ _ _ (by (first | omega | (simp; done) | (simp; omega) | (simp at *; omega)))) | (refine RowAt.drew ?_)))
    have r : RowAt W (w.heap.size + 1 + 1) 26 [.int .i64 0, .string ⟨#[]⟩] := by rw [hW]; exact (by repeat (first | assumption | exact RowAt.new_at _ _ _ _ (by (first | omega | (simp; done) | (simp; omega) | (simp at *; omega))) | (refine RowAt.alloc ?_ _) | (refine RowAt.gr ?_ _) | (refine RowAt.setOther ?_ _ _ (by (first | omega | (simp; done) | (simp; omega) | (simp at *; omega)))) | (refine RowAt.drew ?_)))
    clear hW
    obtain ⟨xc0, xc1, xf0, xf1, xl⟩ := x.two
    obtain ⟨yc0, yc1, yf0, yf1, yl⟩ := y.two
    obtain ⟨rc0, rc1, rf0, rf1, rl⟩ := r.two
    go_wp2_with (first
      | (go_at_call 11; (first | (with_reducible refine Calls.mono (Calls.gr (right_any _ _ _)) ?_) | (refine Calls.mono (Calls.gr0 (right_any _ _ _)) ?_)); rintro e w' ⟨rfl, g, rfl⟩; have hgl := g.le; (try simp only [World.size_alloc] at hgl); (try simp only [World.size_setCell] at hgl))
      | (go_at_call 21; (first | (with_reducible refine Calls.mono (Calls.gr (told_wrong _)) ?_) | (refine Calls.mono (Calls.gr0 (told_wrong _)) ?_)); rintro e w' ⟨rfl, g, rfl⟩; have hgl := g.le; (try simp only [World.size_alloc] at hgl); (try simp only [World.size_setCell] at hgl)))
    exact bodyPostM_ret (v := .tuple #[.agg #[.int .i64 0, .string ⟨#[]⟩], .int .i64 70]) (by simp [results, Tryd.f13, go_sem, rc0, rc1, rl]) rfl ⟨rfl, (by repeat (first | exact Below.refl _ _ | assumption | (refine Below.setCell ?_ (by (first | omega | (simp; done) | (simp; omega) | (simp at *; omega))) _) | (refine Below.alloc ?_ (by (first | omega | (simp; done) | (simp; omega) | (simp at *; omega))) _) | (refine Below.drew ?_) | (refine Gr.into _ ?_ (by (first | omega | (simp; done) | (simp; omega) | (simp at *; omega))))))⟩

def setRegs {N : Nat} (l : List UInt8) (xs : List (Reg N)) : List UInt8 := xs.foldl (fun l x => l.set x.1.1 x.1.2) l
theorem setRegs_snoc {N : Nat} (l : List UInt8) (xs : List (Reg N)) (x : Reg N) : setRegs l (xs ++ [x]) = (setRegs l xs).set x.1.1 x.1.2 := by simp [setRegs]
theorem setRegs_length {N : Nat} (xs : List (Reg N)) : ∀ l : List UInt8, (setRegs l xs).length = l.length := by
  induction xs with
  | nil => intro l; rfl
  | cons x xs ih => intro l; show (setRegs (l.set _ _) xs).length = _; rw [ih]; simp
def mergeB (s t : List UInt8) : List UInt8 := List.zipWith (fun a b => max a b) s t

theorem setRegs_upTo (N : Nat) (s t : List UInt8) (hs : s.length = N) : ∀ (k : Nat) (h : k ≤ N) (i : Nat), (setRegs s (regsUpTo N s t k h)).getD i 0 = if i < k then max (s.getD i 0) (t.getD i 0) else s.getD i 0
  | 0, _, i => by simp [regsUpTo, setRegs]
  | k + 1, h, i => by
    have ih := setRegs_upTo N s t hs k (by omega) i
    rw [regsUpTo, setRegs_snoc]
    by_cases hi : i = k
    · subst hi
      have hl : i < (setRegs s (regsUpTo N s t i (by omega))).length := by rw [setRegs_length]; omega
      simp [List.getD, List.getElem?_set, hl]
    · have e : ((setRegs s (regsUpTo N s t k (by omega))).set k (max (s.getD k 0) (t.getD k 0))).getD i 0 = (setRegs s (regsUpTo N s t k (by omega))).getD i 0 := by
        simp [List.getD, List.getElem?_set, Ne.symm hi]
      show ((setRegs s (regsUpTo N s t k (by omega))).set k (max (s.getD k 0) (t.getD k 0))).getD i 0 = _
      rw [e, ih]
      by_cases h1 : i < k
      · rw [if_pos h1, if_pos (by omega)]
      · rw [if_neg h1, if_neg (by omega)]
theorem setRegs_merge (s t : ByteArray) (h : s.size = t.size) : setRegs s.data.toList (regsUpTo s.size s.data.toList t.data.toList s.size (Nat.le_refl _)) = mergeB s.data.toList t.data.toList := by
  have hs : s.data.toList.length = s.size := by simp
  have ht : t.data.toList.length = t.size := by simp
  apply List.ext_getElem
  · rw [setRegs_length]; simp [mergeB]; omega
  · intro i h1 h2
    rw [setRegs_length] at h1
    have := setRegs_upTo s.size s.data.toList t.data.toList hs s.size (Nat.le_refl _) i
    rw [if_pos (by omega)] at this
    have e1 : (setRegs s.data.toList (regsUpTo s.size s.data.toList t.data.toList s.size (Nat.le_refl _))).getD i 0 = (setRegs s.data.toList (regsUpTo s.size s.data.toList t.data.toList s.size (Nat.le_refl _)))[i]'(by rw [setRegs_length]; exact h1) := by
      rw [List.getD_eq_getElem?_getD, List.getElem?_eq_getElem (by rw [setRegs_length]; exact h1)]; rfl
    have h3 : i < t.data.toList.length := by omega
    have a1 : s.data.toList.getD i 0 = s.data.toList[i] := by rw [List.getD_eq_getElem?_getD, List.getElem?_eq_getElem h1]; rfl
    have a2 : t.data.toList.getD i 0 = t.data.toList[i] := by rw [List.getD_eq_getElem?_getD, List.getElem?_eq_getElem h3]; rfl
    rw [← e1, this, a1, a2]
    simp [mergeB]
theorem chosen_any (f : Value) (s t : ByteArray) (w : World) :
    Calls Tryd.prog 27 #[.agg #[f], .string s, .string t] w fun e w' =>
      e = .returned (.func (.func 46) #[] #[.pointer (some ⟨w.heap.size + 1, 0, none⟩), .pointer (some ⟨w.heap.size, 0, none⟩), .pointer (some ⟨w.heap.size + 1 + 1, 0, none⟩)]) ∧
      ((w.alloc (.cells #[f] 58)).alloc (.cells #[.string s] 9)).alloc (.cells #[.string t] 9) = w' := by
  go_enter Tryd.func27, Tryd.ntmps27
  go_wp2
  go_ret
  exact ⟨rfl, rfl⟩
theorem merge_yes (b : Nat) (s t : ByteArray) (w : World) (h : rightB b s.data.toList = true) (h2 : rightB b t.data.toList = true) :
    Calls Tryd.prog 13 #[.agg #[.int .i64 b, .string s], .agg #[.int .i64 b, .string t]] w fun e w' => e = hllRes b ⟨(mergeB s.data.toList t.data.toList).toArray⟩ 0 ∧ Below w.heap.size w w' := by
  refine calls_of_marks Tryd.func13 rfl ?_
  simp only [Tryd.ntmps13, List.size_toArray, List.length_cons, List.length_nil, Nat.reduceAdd, Nat.reduceSub, Array.replicate_succ, Array.replicate_zero, List.push_toArray, List.append_toArray, List.nil_append, List.cons_append]
  go_wp2_with (first
      | (go_at_call 25; refine Calls.mono (start_yes _ _ _ h) ?_; rintro e w' ⟨bw, rfl, hb1, hw1⟩; obtain ⟨g, rfl⟩ := Gr.of hb1; have hgl := g.le; (try simp only [World.size_alloc] at hgl); (try simp only [World.size_alloc] at hw1); clear hb1))
  have hbw6 := hw1.lt
  refine Calls.named (fun W hW => ?_)
  have hBW : Below w.heap.size w W := by rw [hW]; exact (by repeat (first | exact Below.refl _ _ | assumption | (refine Below.setCell ?_ (by (first | omega | (simp; done) | (simp; omega) | (simp at *; omega))) _) | (refine Below.alloc ?_ (by (first | omega | (simp; done) | (simp; omega) | (simp at *; omega))) _) | (refine Below.drew ?_) | (refine Gr.into _ ?_ (by (first | omega | (simp; done) | (simp; omega) | (simp at *; omega))))))
  have x : RowAt W (w.heap.size) 26 [.int .i64 b, .string s] := by rw [hW]; exact (by repeat (first | assumption | exact RowAt.new_at _ _ _ _ (by (first | omega | (simp; done) | (simp; omega) | (simp at *; omega))) | (refine RowAt.alloc ?_ _) | (refine RowAt.gr ?_ _) | (refine RowAt.setOther ?_ _ _ (by (first | omega | (simp; done) | (simp; omega) | (simp at *; omega)))) | (refine RowAt.drew ?_)))
  have y : RowAt W (w.heap.size + 1) 26 [.int .i64 b, .string t] := by rw [hW]; exact (by repeat (first | assumption | exact RowAt.new_at _ _ _ _ (by (first | omega | (simp; done) | (simp; omega) | (simp at *; omega))) | (refine RowAt.alloc ?_ _) | (refine RowAt.gr ?_ _) | (refine RowAt.setOther ?_ _ _ (by (first | omega | (simp; done) | (simp; omega) | (simp at *; omega)))) | (refine RowAt.drew ?_)))
  have r : RowAt W (w.heap.size + 1 + 1) 26 [.int .i64 0, .string ⟨#[]⟩] := by rw [hW]; exact (by repeat (first | assumption | exact RowAt.new_at _ _ _ _ (by (first | omega | (simp; done) | (simp; omega) | (simp at *; omega))) | (refine RowAt.alloc ?_ _) | (refine RowAt.gr ?_ _) | (refine RowAt.setOther ?_ _ _ (by (first | omega | (simp; done) | (simp; omega) | (simp at *; omega)))) | (refine RowAt.drew ?_)))
  have q : RowAt W (g.world.heap.size) 51 [.pointer (some ⟨bw, 0, none⟩)] := by rw [hW]; exact (by repeat (first | assumption | exact RowAt.new_at _ _ _ _ (by (first | omega | (simp; done) | (simp; omega) | (simp at *; omega))) | (refine RowAt.alloc ?_ _) | (refine RowAt.gr ?_ _) | (refine RowAt.setOther ?_ _ _ (by (first | omega | (simp; done) | (simp; omega) | (simp at *; omega)))) | (refine RowAt.drew ?_)))
  have hw2 : IsWork (w.heap.size + 1 + 1 + 1) W bw b s s.data.toList := by rw [hW]; exact hw1.alloc _
  clear hw1
  clear hW
  obtain ⟨xc0, xc1, xf0, xf1, xl⟩ := x.two
  obtain ⟨yc0, yc1, yf0, yf1, yl⟩ := y.two
  obtain ⟨rc0, rc1, rf0, rf1, rl⟩ := r.two
  obtain ⟨qc0, qf0, ql⟩ := q.one
  generalize g.world.heap.size = b6 at *
  clear g
  go_wp2_with (first
      | (go_at_call 11; (first | (with_reducible refine Calls.mono (Calls.gr (right_any _ _ _)) ?_) | (refine Calls.mono (Calls.gr0 (right_any _ _ _)) ?_)); rintro e w' ⟨rfl, g, rfl⟩; have hgl := g.le; (try simp only [World.size_alloc] at hgl); (try simp only [World.size_setCell] at hgl))
      | (go_at_call 27; refine Calls.mono (chosen_any _ _ _ _) ?_; rintro e w' ⟨rfl, rfl⟩))
  have hw3 := hw2.gr g
  have hbw : bw < g.world.heap.size := by omega
  have hsl : s.size = 2 ^ b := by have := rightB_len h; simpa using this
  have htl : t.size = 2 ^ b := by have := rightB_len h2; simpa using this
  have hsm := pow_small (b := b) (by have := isBits_bd (rightB_bits h); omega)
  refine wp_named (fun W hW => ?_)
  have hBW : Below w.heap.size w W := by rw [hW]; exact (by repeat (first | exact Below.refl _ _ | assumption | (refine Below.setCell ?_ (by (first | omega | (simp; done) | (simp; omega) | (simp at *; omega))) _) | (refine Below.alloc ?_ (by (first | omega | (simp; done) | (simp; omega) | (simp at *; omega))) _) | (refine Below.drew ?_) | (refine Gr.into _ ?_ (by (first | omega | (simp; done) | (simp; omega) | (simp at *; omega))))))
  have x : RowAt W (w.heap.size) 26 [.int .i64 b, .string s] := by rw [hW]; exact (by repeat (first | assumption | exact RowAt.new_at _ _ _ _ (by (first | omega | (simp; done) | (simp; omega) | (simp at *; omega))) | (refine RowAt.alloc ?_ _) | (refine RowAt.gr ?_ _) | (refine RowAt.setOther ?_ _ _ (by (first | omega | (simp; done) | (simp; omega) | (simp at *; omega)))) | (refine RowAt.drew ?_)))
  have r : RowAt W (w.heap.size + 1 + 1) 26 [.int .i64 0, .string ⟨#[]⟩] := by rw [hW]; exact (by repeat (first | assumption | exact RowAt.new_at _ _ _ _ (by (first | omega | (simp; done) | (simp; omega) | (simp at *; omega))) | (refine RowAt.alloc ?_ _) | (refine RowAt.gr ?_ _) | (refine RowAt.setOther ?_ _ _ (by (first | omega | (simp; done) | (simp; omega) | (simp at *; omega)))) | (refine RowAt.drew ?_)))
  have q : RowAt W (b6) 51 [.pointer (some ⟨bw, 0, none⟩)] := by rw [hW]; exact (by repeat (first | assumption | exact RowAt.new_at _ _ _ _ (by (first | omega | (simp; done) | (simp; omega) | (simp at *; omega))) | (refine RowAt.alloc ?_ _) | (refine RowAt.gr ?_ _) | (refine RowAt.setOther ?_ _ _ (by (first | omega | (simp; done) | (simp; omega) | (simp at *; omega)))) | (refine RowAt.drew ?_)))
  have u : RowAt W (g.world.heap.size + 1) 58 [.func (.func 26) #[] #[]] := by rw [hW]; exact (by repeat (first | assumption | exact RowAt.new_at _ _ _ _ (by (first | omega | (simp; done) | (simp; omega) | (simp at *; omega))) | (refine RowAt.alloc ?_ _) | (refine RowAt.gr ?_ _) | (refine RowAt.setOther ?_ _ _ (by (first | omega | (simp; done) | (simp; omega) | (simp at *; omega)))) | (refine RowAt.drew ?_)))
  have u1 : RowAt W (g.world.heap.size + 1 + 1) 9 [.string s] := by rw [hW]; exact (by repeat (first | assumption | exact RowAt.new_at _ _ _ _ (by (first | omega | (simp; done) | (simp; omega) | (simp at *; omega))) | (refine RowAt.alloc ?_ _) | (refine RowAt.gr ?_ _) | (refine RowAt.setOther ?_ _ _ (by (first | omega | (simp; done) | (simp; omega) | (simp at *; omega)))) | (refine RowAt.drew ?_)))
  have u2 : RowAt W (g.world.heap.size + 1 + 1 + 1) 9 [.string t] := by rw [hW]; exact (by repeat (first | assumption | exact RowAt.new_at _ _ _ _ (by (first | omega | (simp; done) | (simp; omega) | (simp at *; omega))) | (refine RowAt.alloc ?_ _) | (refine RowAt.gr ?_ _) | (refine RowAt.setOther ?_ _ _ (by (first | omega | (simp; done) | (simp; omega) | (simp at *; omega)))) | (refine RowAt.drew ?_)))
  have hw4 : IsWork (w.heap.size + 1 + 1 + 1) W bw b s s.data.toList := by rw [hW]; exact (((hw3.alloc _).alloc _).alloc _).alloc _
  have hBx : Boxes W (g.world.heap.size + 1) s t := ⟨u, u1, u2⟩
  clear hW
  obtain ⟨xc0, xc1, xf0, xf1, xl⟩ := x.two
  obtain ⟨rc0, rc1, rf0, rf1, rl⟩ := r.two
  obtain ⟨qc0, qf0, ql⟩ := q.one
  obtain ⟨uc0, uf0, ul⟩ := u.one
  obtain ⟨u1c0, u1f0, u1l⟩ := u1.one
  obtain ⟨u2c0, u2f0, u2l⟩ := u2.one
  clear hw2 hw3
  have hbw' : bw < g.world.heap.size := by omega
  clear hbw
  generalize g.world.heap.size = b7 at *
  clear g
  refine (wpIn_wide (n := 9)).1 ?_
  apply wpIn_rangeFunc_ownG (F := Fence.wide) (n := 9) rfl (by omega) (gf := 46) (lb := #[.pointer (some ⟨b7 + 1 + 1, 0, none⟩), .pointer (some ⟨b7 + 1, 0, none⟩), .pointer (some ⟨b7 + 1 + 1 + 1, 0, none⟩)]) rfl trivial
    (enters_of Tryd.func46 (by kernel_rfl) rfl)
    (chosen_stops 8 (b7 + 1) s t (by omega) (by omega) W hBx) Kept.trans (Kept.putObj (by omega)) (Below.refl _ _) (fun _ => rfl)
    (fun pre W' => (IsWork (w.heap.size + 1 + 1 + 1) W' bw b s (setRegs s.data.toList pre) ∧ RowAt W' (w.heap.size + 1 + 1) 26 [.int .i64 0, .string ⟨#[]⟩] ∧ RowAt W' b6 51 [.pointer (some ⟨bw, 0, none⟩)]) ∧ Below w.heap.size w W')
    (fun _ _ _ => False)
    (OwnFrom.and (fun pre X Y row hs hg hr => ⟨hs.1.grown hg (fun r e => (hr r e).2), hs.2.1.grown hg (fun r e => (hr r e).2), hs.2.2.grown hg (fun r e => (hr r e).2)⟩) (ownFrom_below (Nat.le_refl _) hBW.size))
    (fun _ _ _ _ _ hs _ _ => hs)
    ⟨⟨by simpa [setRegs] using hw4, r, q⟩, hBW⟩
  case hassign =>
    intro l x W K hK
    gi_wp2
    exact hK
  case hbody =>
    rintro l pre x W' ⟨⟨hw, hr, hq⟩, hB⟩ hlen
    obtain ⟨br, cap, i1, i2, i3, i4, i5, i6⟩ := hw
    have hlen2 : (setRegs s.data.toList pre).length = s.size := by rw [setRegs_length]; simp
    obtain ⟨xc0, xc1, xc2, -, -, -, xl⟩ := i5.three
    obtain ⟨qc0, qf0, ql⟩ := hq.one
    have hx := x.2
    have hfr := i6.frozen x.1.1 (by simp [Lib.byteCells]; omega)
    have hcr := i6.byte x.1.1 (by omega)
    rw [hlen2] at xc2
    gi_wp2
    refine ⟨(KeepsOthers.setCell _ _ _).from _, fun k h1 h2 => Below.heap_setCell _ _ _ _ (by show k ≠ br; omega),
      ⟨⟨br, cap, i1, i2, i3, by rw [setRegs_snoc]; simpa using i4, ?_, ?_⟩, hr.setOther _ _ (by show _ ≠ br; omega), hq.setOther _ _ (by show _ ≠ br; omega)⟩, hB.setCell (by show _ ≤ br; omega) _⟩
    · rw [setRegs_snoc, List.length_set]; exact i5.setOther _ _ (by show bw ≠ br; omega)
    · rw [setRegs_snoc, byteCells_set]; exact i6.set _ _
  case hdone =>
    rintro D ys W' hD rfl ⟨⟨hw, hr, hq⟩, hB⟩ hK
    rw [setRegs_merge s t (by omega)] at hw
    obtain ⟨qc0, qf0, ql⟩ := hq.one
    obtain ⟨rc0, rc1, rf0, rf1, rl⟩ := hr.two
    have hDl : D < W'.heap.size := (Array.getElem?_eq_some_iff.1 hK).1
    go_wp2_with (first | (go_at_call 28; (first | (with_reducible refine Calls.mono (Calls.gr (end_any _ _ _ _ _ _ hw)) ?_) | (refine Calls.mono (Calls.gr0 (end_any _ _ _ _ _ _ hw)) ?_)); rintro e w' ⟨rfl, g, rfl⟩; have hgl := g.le; (try simp only [World.size_alloc] at hgl); (try simp only [World.size_setCell] at hgl)))
    refine bodyPostM_named (fun X hX => ?_)
    have rX : RowAt X (w.heap.size + 1 + 1) 26 [.int .i64 b, .string ⟨(mergeB s.data.toList t.data.toList).toArray⟩] := by rw [hX]; exact ((hr.gr g).set 0 _).set 1 _
    have hBX : Below w.heap.size w X := by rw [hX]; exact (by repeat (first | exact Below.refl _ _ | assumption | (refine Below.setCell ?_ (by (first | omega | (simp; done) | (simp; omega) | (simp at *; omega))) _) | (refine Below.alloc ?_ (by (first | omega | (simp; done) | (simp; omega) | (simp at *; omega))) _) | (refine Below.drew ?_) | (refine Gr.into _ ?_ (by (first | omega | (simp; done) | (simp; omega) | (simp at *; omega))))))
    have hKX : X.heap[D]? = some (.deferred (some [])) := by
      rw [hX, Below.heap_setCell _ _ _ _ (by show D ≠ w.heap.size + 1 + 1; omega), Below.heap_setCell _ _ _ _ (by show D ≠ w.heap.size + 1 + 1; omega), g.below.block D hDl]; exact hK
    obtain ⟨rc0, rc1, -, -, -⟩ := (rX.putObj (.deferred none) (D := D) (by omega)).two
    exact bodyPostM_ret1 (v := .tuple #[.agg #[.int .i64 b, .string ⟨(mergeB s.data.toList t.data.toList).toArray⟩], .int .i64 0]) hKX
      (by simp [results, Tryd.f13, go_sem, rc0, rc1]) rfl ⟨rfl, below_putObj hBX hKX (by omega)⟩
  case hstop =>
    rintro D c pre W _ _ h _
    exact h.elim
end Go.Proofs.YtngahohheleeeaaDoor
