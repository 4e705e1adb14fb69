/- A range over a function whose iterator keeps a state of its own in cells that it laid itself (strings.SplitSeq), or whose iterator goes over such a one: the iterator may turn, beside walks' objects, the blocks that T names; what the loop's body says must abide those turns. No condition. -/
import Derived.Test.YtjhdgpboofcelaaDoorFence
namespace Go.Proofs.YtjhdgpboofcelaaDoor
open Go.RowKit

/-- What abides new blocks, turns of what is no cells from B on, turns of the blocks of T. -/
def OwnTurn {β : Type} (B : Nat) (T : Nat → Prop) (I : β → World → Prop) : Prop :=
  ∀ (s : β) (X Y : World) (row : Option Nat), I s X → X.grownBy Y row → (∀ r, row = some r → (B ≤ r ∧ ∃ o : Obj, X.heap[r]? = some o ∧ o.isCells = false) ∨ T r) → I s Y
theorem OwnTurn.putObj {β : Type} {B : Nat} {T : Nat → Prop} {I : β → World → Prop} (h : OwnTurn B T I) {s : β} {W : World} {l : Nat} {o : Obj} (o' : Obj) (hs : I s W) (hB : B ≤ l) (hl : W.heap[l]? = some o) (ho : o.isCells = false) : I s (W.putObj l o') :=
  h s W _ (some l) hs (grownBy_putObj' W l o') (fun r e => by cases e; exact .inl ⟨hB, o, hl, ho⟩)
theorem OwnTurn.alloc {β : Type} {B : Nat} {T : Nat → Prop} {I : β → World → Prop} (h : OwnTurn B T I) {s : β} {W : World} (o : Obj) (hs : I s W) : I s (W.alloc o) :=
  h s W _ none hs (World.grownBy_alloc W o none) (fun r e => by cases e)
theorem OwnTurn.and {β : Type} {B : Nat} {T : Nat → Prop} {I I' : β → World → Prop} (h : OwnTurn B T I) (h' : OwnTurn B T I') : OwnTurn B T (fun s W => I s W ∧ I' s W) :=
  fun s X Y row hs hg hr => ⟨h s X Y row hs.1 hg hr, h' s X Y row hs.2 hg hr⟩
theorem ownTurn_pure {β : Type} (B : Nat) (T : Nat → Prop) (p : β → Prop) : OwnTurn B T (fun s (_ : World) => p s) := fun _ _ _ _ hs _ _ => hs
theorem ownTurn_below {β : Type} {n₀ B : Nat} {T : Nat → Prop} {w₀ : World} (hn : n₀ ≤ w₀.heap.size) (hB : n₀ ≤ B) (hT : ∀ r, T r → n₀ ≤ r) : OwnTurn B T (fun (_ : β) W => Below n₀ w₀ W) :=
  fun _ X Y row hs hg hr => hs.grown hg (by have := hs.size; omega) (fun r e => by
    rcases hr r e with ⟨h1, -⟩ | h1
    · omega
    · exact hT r h1)
/-- Cells of a block that is none of T. -/
theorem RowAt.turn {X Y : World} {b B : Nat} {T : Nat → Prop} {t : TypeId} {vs : List Value} {row : Option Nat} (h : RowAt X b t vs) (hg : X.grownBy Y row) (hr : ∀ r, row = some r → (B ≤ r ∧ ∃ o : Obj, X.heap[r]? = some o ∧ o.isCells = false) ∨ T r) (hb : ¬ T b) : RowAt Y b t vs := by
  refine h.same (hg.block b h.lt fun e => ?_)
  rcases hr b e.symm with ⟨-, o, ho, hc⟩ | h1
  · obtain ⟨C, n, m, h1, _⟩ := h
    rw [h1] at ho
    cases ho
    cases hc
  · exact hb h1
/-- An iterator's contract: from a world of B blocks on it may turn the blocks of T B; it has laid m blocks ahead of its first value. -/
def SeqT {α : Type} (F : Fence) (n : Nat) (P : Program) (g : Nat) (lb : Array Value) (encs : α → Array Value) (Kp : Nat → World → World → Prop) (S Sp : List α → Prop) (N m : Nat) (T : Nat → Nat → Prop) (w : World) : Prop :=
  ∀ (l : Nat) (J Jx : List α → World → Prop) (W : World), Below w.heap.size w W → l < W.heap.size → OwnTurn W.heap.size (T W.heap.size) J → OwnTurn W.heap.size (T W.heap.size) Jx →
    (∀ pre x W1, J pre W1 → W.heap.size + m ≤ W1.heap.size → pre.length < N → YieldAt F (n - 1) P l (encs x) W1 fun e W' =>
      (e = .returned (.bool true) ∧ J (pre ++ [x]) W' ∧ Kp W.heap.size W1 W' ∧ KeepsFrom W.heap.size W1 W') ∨ (e = .returned (.bool false) ∧ Jx (pre ++ [x]) W' ∧ KeepsFrom W.heap.size W1 W')) →
    J [] W →
    CallsIn F n P g (#[.func (.yield l) #[] #[]] ++ lb) W fun e W' => (∃ v, e = .returned v) ∧ ((∃ xs, S xs ∧ J xs W') ∨ (∃ pre, Sp pre ∧ Jx pre W'))
theorem keepsFrom_mono {B C : Nat} {X Y : World} (h : KeepsFrom B X Y) (hB : B ≤ C) : KeepsFrom C X Y := ⟨h.size, fun k o hk h0 ho => h.same k o (by omega) h0 ho⟩
theorem keepsFrom_put {B l : Nat} {X : World} (o : Obj) (hl : l < B) : KeepsFrom B X (X.putObj l o) :=
  ⟨(grownBy_putObj' X l o).size, fun k o' hk h0 _ => (World.putObj_heap_other (by omega)).trans h0⟩
section
variable {F : Fence} {n : Nat} {P : Program} {w : World}
/-- The law of a range over a function, for such an iterator. -/
theorem wpIn_rangeFunc_turn {α : Type} {g : Operand} {ps : Array Tmp} {assign body : Code} {Q : Exit → Act → World → Prop} {a : Act}
    (hro : F.round = none) (h1 : 1 ≤ n) {gf : Nat} {lb : Array Value} (hg : a.eval g = .func (.func gf) #[] lb) (hFg : F.fn gf) (eg : ∀ args w, (callFunc gf args).run P w = .ok (.enter gf args) w)
    {encs : α → Array Value} {Kp : Nat → World → World → Prop} {S Sp : List α → Prop} {N m : Nat} {T : Nat → Nat → Prop} {w0 : World} (hseq : SeqT F (n - 1) P gf lb encs Kp S Sp N m T w0) (hT : ∀ r, T (w.heap.size + 2) r → r ≠ w.heap.size ∧ r ≠ w.heap.size + 1)
    (hKt : ∀ {A B C : World}, Kp (w.heap.size + 2) A B → Kp (w.heap.size + 2) B C → Kp (w.heap.size + 2) A C) (hKb : ∀ (W : World) (l : Nat) (o o' : Obj), w.heap.size ≤ l → l < w.heap.size + 2 → W.heap[l]? = some o → o.isCells = false → o.isWalk = false → Kp (w.heap.size + 2) W (W.putObj l o')) (hb0 : Below w0.heap.size w0 w) (hps : ∀ x, (encs x).size = ps.size)
    (I : List α → World → Prop) (Ix : Code → List α → World → Prop) (hI : OwnTurn w.heap.size (T (w.heap.size + 2)) I) (hIx : ∀ c, OwnTurn w.heap.size (T (w.heap.size + 2)) (Ix c)) (h0 : I [] w) (Ax : α → Act → World → Prop) (hAx : ∀ x a', OwnTurn w.heap.size (T (w.heap.size + 2)) (fun (_ : Unit) W => Ax x a' W))
    (hassign : ∀ (l : Nat) (pre : List α) (x : α) (W : World) (K : Act → World → Prop), w.heap.size + 2 + m ≤ W.heap.size → I pre W → (∀ a' W', KeepsFrom w.heap.size W W' → Kp (w.heap.size + 2) W W' → I pre W' → Ax x a' W' → K a' W') →
      assign.wpIn (F.inRound l) (n - 1 - 1) P (Exit.then K (fun _ _ _ => False)) { tmps := (ps.zip (encs x)).foldl (fun t (p, v) => t.setIfInBounds p v) a.tmps, defers := [] } W)
    (hbody : ∀ (l : Nat) (pre : List α) (x : α) (a' : Act) (W : World), w.heap.size ≤ l → (∃ r, W.heap[l]? = some (.loop r)) → w.heap.size + 2 + m ≤ W.heap.size → I pre W → Ax x a' W → pre.length < N → body.wpIn (F.inRound l) (n - 1 - 1) P (ownPostG w.heap.size (Kp (w.heap.size + 2)) I Ix (pre ++ [x]) W) a' W)
    (hdone : ∀ (D : Nat) (xs : List α) (W : World), D = w.heap.size → S xs → I xs W → W.heap[D]? = some (.deferred (some [])) → Q .normal { a with defers := { target := .collected D, args := #[] } :: a.defers } W)
    (hstop : ∀ (D : Nat) (c : Code) (pre : List α) (W : World), D = w.heap.size → Sp pre → Ix c pre W → W.heap[D]? = some (.deferred (some [])) → c.wpIn F n P Q { a with defers := { target := .collected D, args := #[] } :: a.defers } W) :
    (Code.rangeFunc g ps assign body).wpIn F n P Q a w := by
  refine wpIn_rangeFunc fun fn hfn => ?_
  rw [hro]
  obtain ⟨rec, hrec⟩ : ∃ rec : LoopState → Option Code → Loop, rec = fun st pe => { state := st, pending := pe, fn, tmps := a.tmps, params := ps, assign, body, defers := w.heap.size } := ⟨_, rfl⟩
  obtain ⟨V, hV⟩ : ∃ V, (w.alloc (.deferred (some []))).alloc (.loop (rec .ready none)) = V := ⟨_, rfl⟩
  have hVs : V.heap.size = w.heap.size + 2 := by rw [← hV]; simp
  have hL : V.heap[w.heap.size + 1]? = some (.loop (rec .ready none)) := by
    rw [← hV]; have := World.alloc_heap_new (w.alloc (.deferred (some []))) (.loop (rec .ready none)); rwa [World.size_alloc] at this
  have hD : V.heap[w.heap.size]? = some (.deferred (some [])) := by
    rw [← hV]; exact (Below.heap_alloc _ _ _ (by simp)).trans (World.alloc_heap_new w _)
  have hIV : I [] V := by rw [← hV]; exact hI.alloc _ (hI.alloc _ h0)
  have hbV : Below w0.heap.size w0 V := by
    rw [← hV]; exact hb0.trans ((((Below.refl _ w).alloc (Nat.le_refl _) _).alloc (by simp) _).mono hb0.size)
  refine ⟨w.heap.size + 1, [{ target := .collected w.heap.size, args := #[] }], V, { target := .fn (.func gf) lb, args := #[.func (.yield (w.heap.size + 1)) #[] #[]] }, V, gf,
    #[.func (.yield (w.heap.size + 1)) #[] #[]] ++ lb, V, ?_, ?_, ?_, ?_, fun _ => h1, ?_⟩
  · rw [← hV, hrec]; exact run_enterLoop_outer _ _ _ _ _
  · simp only [resolve, hg]
    simp [go_sem]
  · intro f' hf'; simp [Target.leads] at hf'; subst hf'; exact hFg
  · simp [invoke, go_sem, eg]
  have hrow : ∀ {A : World} {row : Option Nat}, (∀ r, row = some r → (V.heap.size ≤ r ∧ ∃ o : Obj, A.heap[r]? = some o ∧ o.isCells = false) ∨ T V.heap.size r) → (∀ r, row = some r → (w.heap.size ≤ r ∧ ∃ o : Obj, A.heap[r]? = some o ∧ o.isCells = false) ∨ T (w.heap.size + 2) r) := fun hr r e => by
    rcases hr r e with ⟨h2, o, ho, hw⟩ | h2
    · exact .inl ⟨by omega, o, ho, hw⟩
    · rw [hVs] at h2; exact .inr h2
  have hkeep : ∀ {A B : World} {row : Option Nat} {k : Nat} {o : Obj}, A.grownBy B row → (∀ r, row = some r → (V.heap.size ≤ r ∧ ∃ o : Obj, A.heap[r]? = some o ∧ o.isCells = false) ∨ T V.heap.size r) → (k = w.heap.size ∨ k = w.heap.size + 1) → A.heap[k]? = some o → B.heap[k]? = some o := fun hg' hr hk hA => by
    refine (hg'.block _ (Array.getElem?_eq_some_iff.1 hA).1 fun e => ?_).trans hA
    rcases hr _ e.symm with ⟨h2, -⟩ | h2
    · omega
    · have := hT _ (hVs ▸ h2); omega
  refine (hseq (w.heap.size + 1)
    (fun pre W => I pre W ∧ W.heap[w.heap.size + 1]? = some (.loop (rec .ready none)) ∧ W.heap[w.heap.size]? = some (.deferred (some [])))
    (fun pre W => ∃ c, Ix c pre W ∧ W.heap[w.heap.size + 1]? = some (.loop (rec .done (some c))) ∧ W.heap[w.heap.size]? = some (.deferred (some [])))
    V hbV (by omega)
    (fun s A B row hs hg' hr => ⟨hI s A B row hs.1 hg' (hrow hr), hkeep hg' hr (by omega) hs.2.1, hkeep hg' hr (by omega) hs.2.2⟩)
    (fun s A B row hs hg' hr => by
      obtain ⟨c, hc, hl, hk⟩ := hs
      exact ⟨c, hIx c s A B row hc hg' (hrow hr), hkeep hg' hr (by omega) hl, hkeep hg' hr (by omega) hk⟩)
    ?_ ⟨hIV, hL, hD⟩).mono ?_
  · rintro pre x W ⟨hi, hl, hk⟩ hWs hlen
    have hy := run_yield (P := P) (args := encs x) hl (by rw [hrec]; exact hps x)
    rw [hrec] at hy
    refine ⟨fn, _, assign, body, hy, roundIn_of_wpIn hfn (hassign _ pre x W _ (by omega) hi ?_)⟩
    clear hy
    intro a' Wa hkfa hkpa hia hax
    have hla := hkfa.same _ _ (by omega) hl rfl
    have hka := hkfa.same _ _ (Nat.le_refl _) hk rfl
    have hlt : w.heap.size + 1 < Wa.heap.size := (Array.getElem?_eq_some_iff.1 hla).1
    refine ⟨_, run_beginRound hla (by rw [hrec]), ?_⟩
    obtain ⟨X, hX⟩ : ∃ X, Wa.putObj (w.heap.size + 1) (.loop { rec .ready none with state := .busy }) = X := ⟨_, rfl⟩
    have hXs : X.heap.size = Wa.heap.size := by rw [← hX]; simp [World.putObj]
    have hl2 : X.heap[w.heap.size + 1]? = some (.loop { rec .ready none with state := .busy }) := by rw [← hX]; exact World.putObj_heap_same hlt
    have hk2 : X.heap[w.heap.size]? = some (.deferred (some [])) := by rw [← hX]; exact (World.putObj_heap_other (by omega)).trans hka
    have hw2 : Kp (w.heap.size + 2) Wa X := by rw [← hX]; exact hKb _ _ _ _ (by omega) (by omega) hla rfl rfl
    have hKX : KeepsFrom V.heap.size Wa X := by rw [← hX]; exact keepsFrom_put _ (by omega)
    have hiX : I pre X := by rw [← hX]; exact hI.putObj _ hia (by omega) hla rfl
    have haX : Ax x a' X := by rw [← hX]; exact (hAx x a').putObj (s := ()) _ hax (by omega) hla rfl
    rw [hX]
    refine wpIn_mono (hbody _ pre x a' X (by omega) ⟨_, hl2⟩ (by have := hkfa.size; omega) hiX haX hlen) ?_
    have fin : ∀ (jump : Option Code) (Y : World), KeepsFrom w.heap.size X Y →
        (Instr.endRound (w.heap.size + 1) jump).run P Y = .ok (.bool jump.isNone) (Y.putObj (w.heap.size + 1) (.loop (rec (if jump.isNone then .ready else .done) jump))) ∧
        Y.heap[w.heap.size + 1]? = some (.loop { rec .ready none with state := .busy }) ∧
        (Y.putObj (w.heap.size + 1) (.loop (rec (if jump.isNone then .ready else .done) jump))).heap[w.heap.size + 1]? = some (.loop (rec (if jump.isNone then .ready else .done) jump)) ∧
        (Y.putObj (w.heap.size + 1) (.loop (rec (if jump.isNone then .ready else .done) jump))).heap[w.heap.size]? = some (.deferred (some [])) ∧
        KeepsFrom V.heap.size W (Y.putObj (w.heap.size + 1) (.loop (rec (if jump.isNone then .ready else .done) jump))) := fun jump Y hk3 => by
      have hl3 := hk3.same _ _ (by omega) hl2 rfl
      have := run_endRound (P := P) jump hl3
      rw [hrec] at this ⊢
      refine ⟨this, by rw [hrec] at hl3; exact hl3, World.putObj_heap_same (Array.getElem?_eq_some_iff.1 hl3).1, (World.putObj_heap_other (by omega)).trans (hk3.same _ _ (Nat.le_refl _) hk2 rfl), ?_⟩
      exact (((keepsFrom_mono hkfa (by omega)).trans hKX).trans (keepsFrom_mono hk3 (by omega))).trans (keepsFrom_put _ (by omega))
    rintro e a3 Y hp
    cases e with
    | normal =>
      obtain ⟨hk3, hkp3, hi3⟩ := hp
      obtain ⟨hr, hl3, hl4, hk4, hkf⟩ := fin none Y hk3
      exact ⟨_, _, hr, .inl ⟨rfl, ⟨hI.putObj _ hi3 (by omega) hl3 rfl, hl4, hk4⟩, by rw [hVs]; exact hKt hkpa (hKt (hKt hw2 hkp3) (hKb _ _ _ _ (by omega) (by omega) hl3 rfl rfl)), hkf⟩⟩
    | ret =>
      obtain ⟨hk3, hi3⟩ := hp
      obtain ⟨hr, hl3, hl4, hk4, hkf⟩ := fin (some .ret) Y hk3
      exact ⟨_, _, hr, .inr ⟨rfl, ⟨.ret, (hIx _).putObj _ hi3 (by omega) hl3 rfl, hl4, hk4⟩, hkf⟩⟩
    | exit id =>
      obtain ⟨hk3, hi3⟩ := hp
      obtain ⟨hr, hl3, hl4, hk4, hkf⟩ := fin (some (.exit id)) Y hk3
      exact ⟨_, _, hr, .inr ⟨rfl, ⟨.exit id, (hIx _).putObj _ hi3 (by omega) hl3 rfl, hl4, hk4⟩, hkf⟩⟩
    | goto t =>
      obtain ⟨hk3, hi3⟩ := hp
      obtain ⟨hr, hl3, hl4, hk4, hkf⟩ := fin (some (.goto t)) Y hk3
      exact ⟨_, _, hr, .inr ⟨rfl, ⟨.goto t, (hIx _).putObj _ hi3 (by omega) hl3 rfl, hl4, hk4⟩, hkf⟩⟩
    | panic ch => exact hp.elim
    | outgrown => exact hp.elim
  · rintro e W2 ⟨⟨v, rfl⟩, (⟨xs, hS, hi, hl, hk⟩ | ⟨pre, hSp, c, hi, hl, hk⟩)⟩
    · exact ⟨none, _, by have := run_endLoop (P := P) hl (by rw [hrec]; simp); rw [hrec] at this; exact this, hdone _ xs _ rfl hS (hI.putObj _ hi (by omega) hl rfl) ((World.putObj_heap_other (by omega)).trans hk)⟩
    · exact ⟨some c, _, by have := run_endLoop (P := P) hl (by rw [hrec]; simp); rw [hrec] at this; exact this, hstop _ c pre _ rfl hSp ((hIx c).putObj _ hi (by omega) hl rfl) ((World.putObj_heap_other (by omega)).trans hk)⟩
end
/-- A round of a loop, from within a round of another: at the wide fence no depth is asked. -/
theorem roundIn_any {m : Nat} (m' l' : Nat) {P : Program} {l : Nat} {f : FuncId} {tmps : Array Value} {assign body : Code} {w : World} {R : Ending → World → Prop} (h : RoundIn Fence.wide m P l f tmps assign body w R) : RoundIn (Fence.wide.inRound l') m' P l f tmps assign body w R :=
  ⟨h.1, fun c cs _ => h.2 c cs (fun d h => by cases h)⟩
end Go.Proofs.YtjhdgpboofcelaaDoor
