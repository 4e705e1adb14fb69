/- Package hist: sums as a sequence; Rank. -/
import Derived.Test.YtnoemopaplopdaaHM
namespace Go.Proofs.Ytnoemopaplopdaa
open Go.RowKit Go.Maps
attribute [local go_sem] Oper.semAt_some

theorem sums_no (n l b : Nat) (f : Int) (v : Value) (L : List (Int × Nat)) (J : List ((Int × Nat) × Nat) → World → Prop)
    (W : World) (hBx : RowAt W b 25 [.int .i64 f, v]) (hL : BinsAt W.heap.size W v L) (hr : rightL f L = false) (hJd : ∀ pre W W', J pre W → Below W.heap.size W W' → J pre W') (h0 : J [] W) :
    CallsIn Fence.wide n Try.prog 49 #[.func (.yield l) #[] #[], .pointer (some ⟨b, 0, none⟩)] W fun e W' => (∃ v, e = .returned v) ∧ J [] W' := by
  refine callsIn_of_wp Try.func49 rfl trivial ?_
  simp only [Try.ntmps49, List.size_toArray, List.length_cons, List.length_nil, Nat.reduceAdd, Nat.reduceSub, Array.replicate_succ, Array.replicate_zero, List.push_toArray, List.append_toArray, List.nil_append, List.cons_append]
  obtain ⟨c0, c1, f0, f1, l1⟩ := hBx.two
  gi_wp2
  refine ⟨trivial, free_wide.room, (free_wide.calls (hr ▸ right_any f v L W hL)).mono ?_⟩
  rintro e W1 ⟨rfl, hb1⟩
  gi_wp2
  refine bodyPost_ret (results_none rfl _ _ _) rfl ?_
  exact ⟨⟨_, rfl⟩, hJd _ _ _ h0 hb1⟩

/-- What a histogram's sums are. -/
def sumsL (f : Int) (L : List (Int × Nat)) : List ((Int × Nat) × Nat) := if rightL f L then sumsFrom 0 L else []
def HeldBy (b : Nat) (v : Value) (k : Nat) : Prop := k = b ∨ v.ownBlock = some k
theorem KeptAt.trans {S : Nat → Prop} {A B C : World} (h : KeptAt S A B) (k : KeptAt S B C) : KeptAt S A C := fun i h1 => (k i h1).trans (h i h1)
theorem KeptAt.putObj {S : Nat → Prop} {w : World} (hh : ∀ k, S k → k < w.heap.size) (W : World) (l : Nat) (o o' : Obj) (hl : w.heap.size ≤ l) (_ : W.heap[l]? = some o) (_ : o.isCells = false) (_ : o.isWalk = false) : KeptAt S W (W.putObj l o') :=
  fun k hk => World.putObj_heap_other (by have := hh k hk; omega)
theorem sums_stops (n b : Nat) (f : Int) (v : Value) (L : List (Int × Nat)) (w : World) (hBx : RowAt w b 25 [.int .i64 f, v]) (hL : BinsAt w.heap.size w v L) :
    SeqStopsK Fence.wide n Try.prog 49 #[.pointer (some ⟨b, 0, none⟩)] binArgs (KeptAt (fun k => k = b ∨ (L ≠ [] ∧ v.ownBlock = some k))) (fun ys => ys = sumsL f L) (fun pre => pre <+: sumsL f L) L.length w := fun l J Jx W hW hJ hJx hY h0 => by
  have hbl := hBx.lt
  have hBx' : RowAt W b 25 [.int .i64 f, v] := hBx.same (hW.block b hbl)
  have hL' : BinsAt W.heap.size W v L := hL.at_ hW
  have hJd : ∀ pre W W', J pre W → Below W.heap.size W W' → J pre W' := fun pre W W' hp hb => hJ pre W W' none hp ⟨hb.os, hb.tape, hb.output, hb.size, fun k hk _ => hb.block k hk⟩ (fun r e => by cases e)
  unfold sumsL
  cases hr : rightL f L
  · refine (sums_no n l b f v L J W hBx' hL' hr hJd h0).mono ?_
    rintro e W' ⟨h1, h2⟩
    exact ⟨h1, .inl ⟨[], rfl, h2⟩⟩
  · simpa using sums_in n l b f v L J Jx hY W hBx' hL' hr hJd h0
end Go.Proofs.Ytnoemopaplopdaa
