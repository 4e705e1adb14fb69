/- Package scope: Right. -/
import Derived.Test.YtjhdgpboofcelaaDoorSG
namespace Go.Proofs.YtjhdgpboofcelaaDoor
open Go.RowKit
attribute [local go_sem] Oper.semAt_some

/-- A term that is one. -/
def okA (x : List UInt8 × List UInt8) : Bool := nameB x.1 && (pcsA x.2).isSome
/-- A text's terms. -/
def termsA (l : List UInt8) : List (List UInt8 × List UInt8) := (splitA l).map termA
/-- The names ahead of the first that is none. -/
def namesA (ts : List (List UInt8 × List UInt8)) : List (List UInt8) := (ts.takeWhile okA).map (·.1)
/-- Is a text that is not empty a scope? -/
def termsOk (ts : List (List UInt8 × List UInt8)) : Bool := ts.all okA && decide (namesA ts = Lib.compact (sortS (namesA ts)).toList) && decide ((namesA ts).length ≤ 4)
/-- Is a text a scope? -/
def rightSA (l : List UInt8) : Bool := l.isEmpty || termsOk (termsA l)
theorem termsS (l : List UInt8) (h : AllS (splitA l)) : ((attS (splitA l) h).map termS).map (·.1) = termsA l := by
  rw [List.map_map]
  have e : (fun x : TB => x.1) ∘ termS = termA ∘ (fun x : SB => x.1) := rfl
  rw [e, ← List.map_map, attS_map]
  rfl
set_option maxRecDepth 100000 in
theorem scopeRight_none (s : ByteArray) (w : World) (hs : s.data.toList = []) :
    Calls Tryd.prog 11 #[.string s] w fun e w' => e = .returned (.bool true) ∧ Below w.heap.size w w' := by
  obtain rfl : s = ⟨#[]⟩ := by
    apply ByteArray.ext
    apply Array.toList_inj.1
    exact hs
  refine calls_of_marks Tryd.func11 rfl ?_
  simp only [Tryd.ntmps11, List.size_toArray, List.length_cons, List.length_nil, Nat.reduceAdd, Nat.reduceSub, Array.replicate_succ, Array.replicate_zero, List.push_toArray, List.append_toArray, List.nil_append, List.cons_append]
  go_wp2
  go_step3
  go_wp2
  rw [Exit.noGoto_ret]
  exact bodyPostM_ret (v := .bool true) (by simp [results, Tryd.f11, go_sem]) rfl ⟨rfl, Below.refl _ _⟩
/-- A term's name, as a value. -/
abbrev nmV (x : TB) : Value := .string ⟨x.1.1.toArray⟩
/-- The names that were found, and whether all is right. -/
def NamesAt (M nb rb n0 : Nat) (W0 : World) (r : Bool) (q : List TB) (X : World) : Prop :=
  ∃ v, RowAt X nb 28 [v] ∧ X.ownsRow M 9 1 v q.length (q.map nmV) ∧ RowAt X rb 4 [.bool r] ∧ Below n0 W0 X
theorem ownsRow_same' {w W : World} {base : Nat} {e : TypeId} {size n : Nat} {v : Value} {xs : List Value} (h : w.ownsRow base e size v n xs) (hb : ∀ k, base ≤ k → W.heap[k]? = w.heap[k]?) : W.ownsRow base e size v n xs := ownsRow_same h fun k hk _ => hb k hk
theorem ownsRow_turn {X Y : World} {M B : Nat} {T : Nat → Prop} {e : TypeId} {size n : Nat} {v : Value} {xs : List Value} {row : Option Nat} (h : X.ownsRow M e size v n xs) (hg : X.grownBy Y row) (hr : ∀ r, row = some r → (B ≤ r ∧ ∃ o : Obj, X.heap[r]? = some o ∧ o.isCells = false) ∨ T r) (hT : ∀ r, T r → r < M) : Y.ownsRow M e size v n xs := by
  obtain ⟨h1, h2 | ⟨g, cap, cur, rfl, h3, h4, h5, h6, h7, h8⟩⟩ := h
  · exact ⟨h1, .inl h2⟩
  · refine ⟨h1, .inr ⟨g, cap, cur, rfl, h3, (hg.block g (Array.getElem?_eq_some_iff.1 h4).1 fun e => ?_).trans h4, h5, h6, h7, h8⟩⟩
    rcases hr g e.symm with ⟨-, o, ho, hc⟩ | ht
    · rw [h4] at ho
      cases ho
      cases hc
    · have := hT g ht
      omega
theorem namesAt_turn {M nb rb n0 B : Nat} {T : Nat → Prop} {W0 : World} {r : Bool} (hn : n0 ≤ W0.heap.size) (hB : n0 ≤ B) (hT0 : ∀ r, T r → n0 ≤ r) (hTM : ∀ r, T r → r < M) (hTn : ¬ T nb) (hTr : ¬ T rb) : OwnTurn B T (NamesAt M nb rb n0 W0 r) :=
  fun q X Y row ⟨v, h1, h2, h3, h4⟩ hg hr => ⟨v, h1.turn hg hr hTn, ownsRow_turn h2 hg hr hTM, h3.turn hg hr hTr, ownTurn_below (β := Unit) hn hB hT0 () X Y row h4 hg hr⟩
/-- A name more. -/
theorem names_more {M nb rb n0 B : Nat} {W0 X X3 Y : World} {q : List TB} {x : TB} {v v' : Value} {o : Obj} (rn : RowAt X nb 28 [v]) (own : X.ownsRow M 9 1 v q.length (q.map nmV)) (rr : RowAt X rb 4 [.bool true]) (hb : Below n0 W0 X)
    (h3 : Below X.heap.size X X3) (own' : Y.ownsRow M 9 1 v' (q.length + 1) (q.map nmV ++ [nmV x])) (hg : (X3.alloc o).grownBy Y v.ownBlock) (hsz : M ≤ X.heap.size) (hM : M = B + 6) (hnb : nb < B) (hnr : rb < B) (hne : rb ≠ nb) (hn0 : n0 ≤ nb) :
    KeepsFrom B X (Y.setCell ⟨nb, 0, none⟩ v') ∧ KeptAt (Four (B + 2)) X (Y.setCell ⟨nb, 0, none⟩ v') ∧ NamesAt M nb rb n0 W0 true (q ++ [x]) (Y.setCell ⟨nb, 0, none⟩ v') := by
  have hs3 := h3.size
  have hA : Below X.heap.size X (X3.alloc o) := h3.alloc hs3 _
  have hBM : Below M X Y := (hA.mono hsz).grown hg (by rw [World.size_alloc]; omega) (fun k e => (own.lt k e).1)
  have hYs := hBM.size
  have hS : ∀ k, k ≠ nb → (Y.setCell ⟨nb, 0, none⟩ v').heap[k]? = Y.heap[k]? := fun k hk => Below.heap_setCell _ _ _ _ hk
  have hK : KeepsFrom B X Y := ⟨hYs, fun k o' hk h0 ho => by
    refine (hg.block k ?_ fun e => ?_).trans ((hA.block k (Array.getElem?_eq_some_iff.1 h0).1).trans h0)
    · have := hA.size
      have := (Array.getElem?_eq_some_iff.1 h0).1
      omega
    · rcases own with ⟨-, ⟨rfl, -⟩ | ⟨g, cap, cur, rfl, h3, h4, h5⟩⟩
      · cases e
      · cases e
        rw [h4] at h0
        cases h0
        cases ho⟩
  refine ⟨hK.trans ((KeepsOthers.setCell _ _ _).from _), fun k hk => (hS k (by rcases hk with ⟨h1, h2⟩; omega)).trans (hBM.block k (by rcases hk with ⟨h1, h2⟩; omega)), v', ?_, ?_, ?_, ?_⟩
  · have r1 : RowAt Y nb 28 [v] := rn.same (hBM.block nb (by omega))
    exact r1.set 0 v'
  · have e : (q ++ [x]).map nmV = q.map nmV ++ [nmV x] := by simp
    rw [e, show (q ++ [x]).length = q.length + 1 by simp]
    exact ownsRow_same' own' fun k hk => hS k (by omega)
  · exact (rr.same (hBM.block rb (by omega))).setOther ⟨nb, 0, none⟩ v' hne
  · exact (hb.trans (hBM.mono (by omega))).setCell (by show n0 ≤ nb; exact hn0) _
/-- All is not right. -/
theorem names_bad {M nb rb n0 B : Nat} {W0 X X2 : World} {q : List TB} {v : Value} (rn : RowAt X nb 28 [v]) (own : X.ownsRow M 9 1 v q.length (q.map nmV)) (rr : RowAt X rb 4 [.bool true]) (hb : Below n0 W0 X)
    (h2 : Below X.heap.size X X2) (hM : M = B + 6) (hnr : rb < B) (hne : nb ≠ rb) (hn0 : n0 ≤ rb) (hsz : n0 ≤ X.heap.size) :
    KeepsFrom B X (X2.setCell ⟨rb, 0, none⟩ (.bool false)) ∧ NamesAt M nb rb n0 W0 false q (X2.setCell ⟨rb, 0, none⟩ (.bool false)) := by
  refine ⟨(keepsFrom_below h2 : KeepsFrom B X X2).trans ((KeepsOthers.setCell _ _ _).from _), v, ?_, ?_, ?_, ?_⟩
  · exact (rn.below h2 rn.lt).setOther ⟨rb, 0, none⟩ _ hne
  · exact ownsRow_same' (ownsRow_below own h2) fun k hk => Below.heap_setCell _ _ _ _ (by show k ≠ rb; omega)
  · exact (rr.below h2 rr.lt).set 0 (.bool false)
  · exact (hb.trans (h2.mono hsz)).setCell (by show n0 ≤ rb; exact hn0) _
theorem split_length : ∀ l : List UInt8, (splitA l).length ≤ l.length + 1
  | [] => by simp [splitA]
  | c :: l => by
    have ih := split_length l
    rw [splitA]
    split
    · simp; omega
    · split
      · simp
      · rename_i y ys he
        rw [he] at ih
        simp at ih ⊢
        omega
theorem takeWhile_all {α : Type} (p : α → Bool) : ∀ l : List α, l.all p = true → l.takeWhile p = l
  | [], _ => rfl
  | x :: l, h => by
    simp only [List.all_cons, Bool.and_eq_true] at h
    rw [List.takeWhile_cons, if_pos h.1, takeWhile_all p l h.2]
theorem okA_names (ts q : List (List UInt8 × List UInt8)) (h : q = ts) (hq : q.all okA = true) : namesA ts = q.map (·.1) ∧ ts.all okA = true := by
  subst h
  refine ⟨?_, hq⟩
  unfold namesA
  rw [takeWhile_all _ q hq]
theorem okA_names_bad (ts q : List (List UInt8 × List UInt8)) (x : List UInt8 × List UInt8) (h : q ++ [x] <+: ts) (hq : q.all okA = true) (hx : okA x = false) : namesA ts = q.map (·.1) ∧ ts.all okA = false := by
  obtain ⟨t, rfl⟩ := h
  constructor
  · unfold namesA
    rw [List.append_assoc, List.takeWhile_append_of_pos (by simpa using hq)]
    simp [hx]
  · simp [hx]
theorem termsOk_of (l : List UInt8) (q : List TB) (h : q.map (·.1) = termsA l) (hall : (q.all fun x => okA x.1) = true) :
    termsOk (termsA l) = (true && decide (q.map (·.1.1) = Lib.compact (sortS (q.map (·.1.1))).toList) && decide (q.length ≤ 4)) := by
  have h2 : (q.map (·.1)).all okA = true := by rw [List.all_map]; exact hall
  obtain ⟨h3, h4⟩ := okA_names (termsA l) (q.map (·.1)) h h2
  have e : (q.map (·.1)).map (·.1) = q.map (·.1.1) := by rw [List.map_map]; rfl
  unfold termsOk
  rw [h3, h4, e, List.length_map]
theorem termsOk_bad (l : List UInt8) (A q : List TB) (x : TB) (hA : A.map (·.1) = termsA l) (h : q ++ [x] <+: A) (hall : (q.all fun x => okA x.1) = true) (hx : okA x.1 = false) (b c : Bool) :
    termsOk (termsA l) = (false && b && c) := by
  have h2 : (q.map (·.1)).all okA = true := by rw [List.all_map]; exact hall
  have h1 : q.map (·.1) ++ [x.1] <+: termsA l := by
    have := h.map (·.1)
    rw [hA] at this
    simpa using this
  obtain ⟨-, h4⟩ := okA_names_bad (termsA l) (q.map (·.1)) x.1 h1 h2 hx
  unfold termsOk
  rw [h4]
  rfl
end Go.Proofs.YtjhdgpboofcelaaDoor
