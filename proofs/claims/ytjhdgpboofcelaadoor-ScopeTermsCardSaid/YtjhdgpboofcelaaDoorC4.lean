/- Package label: pairs, an iterator. -/
import Derived.Test.YtjhdgpboofcelaaDoorC3
namespace Go.Proofs.YtjhdgpboofcelaaDoor
open Go.RowKit
attribute [local go_sem] Oper.semAt_some

abbrev lessBy (a b : ByteArray) : Bool := Go.Op.bytesLess a.toList b.toList
/-- Labels, each with the one ahead. -/
def pairsL : List BLab → List (BLab × BLab)
  | [] => []
  | [_] => []
  | a :: b :: l => (a, b) :: pairsL (b :: l)
theorem pairsL_length : ∀ L : List BLab, (pairsL L).length = L.length - 1
  | [] => rfl
  | [_] => rfl
  | a :: b :: l => by
    have := pairsL_length (b :: l)
    simp only [pairsL, List.length_cons] at this ⊢
    omega
theorem pairsL_getElem : ∀ (L : List BLab) (k : Nat) (h : k < (pairsL L).length) (h1 : k < L.length) (h2 : k + 1 < L.length), (pairsL L)[k] = (L[k], L[k + 1])
  | [], k, h, _, _ => by simp [pairsL] at h
  | [_], k, h, _, _ => by simp [pairsL] at h
  | a :: b :: l, 0, _, _, _ => rfl
  | a :: b :: l, k + 1, h, h1, h2 => by
    have := pairsL_getElem (b :: l) k (by simpa [pairsL] using h) (by simpa using h1) (by simpa using h2)
    simpa [pairsL] using this
abbrev pairArgs (x : BLab × BLab) : Array Value := #[LabV x.1, LabV x.2]
/-- Blocks of a kind lie as they lay. -/
def KeptAt (S : Nat → Prop) (W W' : World) : Prop := ∀ k, S k → W'.heap[k]? = W.heap[k]?
theorem KeptAt.trans {S : Nat → Prop} {A B C : World} (h : KeptAt S A B) (k : KeptAt S B C) : KeptAt S A C := fun i h1 => (k i h1).trans (h i h1)
theorem KeptAt.putObj {S : Nat → Prop} {w : World} (hh : ∀ k, S k → k < w.heap.size) (W : World) (l : Nat) (o o' : Obj) (hl : w.heap.size ≤ l) (_ : W.heap[l]? = some o) (_ : o.isCells = false) (_ : o.isWalk = false) : KeptAt S W (W.putObj l o') :=
  fun k hk => World.putObj_heap_other (by have := hh k hk; omega)

set_option maxRecDepth 100000 in
set_option maxHeartbeats 1000000 in
theorem pairs_in (S : Nat → Prop) (n l b a off cap : Nat) (hSb : S b) (hSa : S a) (L : List BLab) (J Jx : List (BLab × BLab) → World → Prop)
    (hY : ∀ pre x W, J pre W → pre.length < L.length → YieldAt Fence.wide (n - 1) Tryd.prog l (pairArgs x) W fun e W' =>
      (e = .returned (.bool true) ∧ J (pre ++ [x]) W' ∧ KeptAt S W W') ∨ (e = .returned (.bool false) ∧ Jx (pre ++ [x]) W'))
    (W : World) (hlen : L.length ≤ 1000000) (hBx : RowAt W b 29 [.slice (some ⟨a, off, none⟩) L.length cap]) (ha : a < W.heap.size) (hcap : L.length ≤ cap)
    (hc : ∀ i (h : i < L.length), W.cell? ⟨a, off + i * 2, none⟩ = some (.string L[i].1) ∧ W.cell? ⟨a, off + i * 2 + 1, none⟩ = some (.string L[i].2))
    (hJd : ∀ pre W W', J pre W → Below W.heap.size W W' → J pre W') (h0 : J [] W) :
    CallsIn Fence.wide n Tryd.prog 40 #[.func (.yield l) #[] #[], .pointer (some ⟨b, 0, none⟩)] W fun e W' => (∃ v, e = .returned v) ∧
      ((∃ ys, ys = pairsL L ∧ J ys W') ∨ (∃ pre, pre <+: pairsL L ∧ Jx pre W')) := by
  refine callsIn_of_wp Tryd.func40 rfl trivial ?_
  simp only [Tryd.ntmps40, List.size_toArray, List.length_cons, List.length_nil, Nat.reduceAdd, Nat.reduceSub, Array.replicate_succ, Array.replicate_zero, List.push_toArray, List.append_toArray, List.nil_append, List.cons_append]
  obtain ⟨c0, f0, l0⟩ := hBx.one
  gi_wp2
  gi_loopw [3] (fun i wr => ∃ (k : Nat), (k < L.length ∨ k = 0) ∧ i = .int .i64 (k + 1) ∧ J ((pairsL L).take k) wr ∧ wr.heap[b]? = W.heap[b]? ∧ wr.heap[a]? = W.heap[a]?)
      (fun i _ => L.length - (intOf i).toNat)
  case atStart => exact ⟨0, .inr rfl, rfl, by simpa using h0, rfl, rfl⟩
  case round =>
    obtain ⟨k, hk, rfl, hJ, hkb, hka⟩ := hrel
    have hBr := hBx.same hkb
    obtain ⟨c0', f0', l0'⟩ := hBr.one
    by_cases hlk : k + 1 < L.length
    · obtain ⟨hc0, hc1⟩ := hc k (by omega)
      obtain ⟨hd0, hd1⟩ := hc (k + 1) hlk
      rw [← World.cell?_of_block (a := ⟨a, off + k * 2, none⟩) hka] at hc0
      rw [← World.cell?_of_block (a := ⟨a, off + k * 2 + 1, none⟩) hka] at hc1
      rw [← World.cell?_of_block (a := ⟨a, off + (k + 1) * 2, none⟩) hka] at hd0
      rw [← World.cell?_of_block (a := ⟨a, off + (k + 1) * 2 + 1, none⟩) hka] at hd1
      have hk2 : k < (pairsL L).length := by rw [pairsL_length]; omega
      have hx := pairsL_getElem L k hk2 (by omega) hlk
      have htk : (pairsL L).take (k + 1) = (pairsL L).take k ++ [(L[k], L[k + 1])] := by rw [List.take_succ_eq_append_getElem hk2, hx]
      rcases hL : L[k] with ⟨n0, v0⟩
      rcases hM : L[k + 1] with ⟨n1, v1⟩
      rw [hL] at hc0 hc1
      rw [hM] at hd0 hd1
      rw [hL, hM] at htk
      have hal : a < wr.heap.size := by
        rcases Nat.lt_or_ge a wr.heap.size with h | h
        · exact h
        · simp [World.cell?, Array.getElem?_eq_none h] at hc0
      have HT := Lib.hid htk
      clear htk hx hL hM
      have hlk' : (k : Int) + 1 < (L.length : Int) := by omega
      have hw1 : IntKind.i64.wrap ((k : Int) + 1 - 1) = (k : Int) := by rw [IntKind.wrap_i64]; omega
      have hw2 : ((k : Int) + 1).toNat = k + 1 := by omega
      have hw3 : (0 : Int) ≤ (k : Int) + 1 := by omega
      gi_wp2
      refine wpIn_region_gr_tail 10 free_wide (by kernel_rfl) (by kernel_rfl) ?_
      simp only [List.take_succ_cons, List.take_zero, List.drop_succ_cons, List.drop_zero]
      repeat (go_big_quiet_step (first | fail))
      refine wpQuiet_nil ?_
      intro g
      have hJg := hJd _ wr g.world hJ g.below
      obtain ⟨fn, tmps, assign, body, hy, hR⟩ := hY _ ((n0, v0), (n1, v1)) g.world hJg (by rw [List.length_take, pairsL_length]; omega)
      rw [← HT.out] at hR
      have hkb2 : g.world.heap[b]? = W.heap[b]? := (g.below.block b l0').trans hkb
      have hka2 : g.world.heap[a]? = W.heap[a]? := (g.below.block a hal).trans hka
      gi_wp2
      refine ⟨free_wide.room, hR.mono ?_⟩
      rintro e W3 (⟨rfl, hJ3, hk3⟩ | ⟨rfl, hJx3⟩)
      · have hkb3 := (hk3 b hSb).trans hkb2
        have hka3 := (hk3 a hSa).trans hka2
        gi_wp2
        go_roundw
        case rel => exact ⟨k + 1, .inl (by omega), by go_num, hJ3, hkb3, hka3⟩
        case measure => simp [intOf]; omega
      · gi_wp2
        refine bodyPost_ret (results_none rfl _ _ _) rfl ?_
        exact ⟨⟨_, rfl⟩, .inr ⟨_, List.take_prefix _ _, hJx3⟩⟩
    · have hlk' : ¬ ((k : Int) + 1 < (L.length : Int)) := by omega
      have hall : (pairsL L).take k = pairsL L := List.take_of_length_le (by rw [pairsL_length]; omega)
      rw [hall] at hJ
      gi_wp2
      go_end0
      first | exact ⟨⟨_, rfl⟩, .inl ⟨_, rfl, hJ⟩⟩ | exact ⟨⟨_, rfl⟩, .inl hJ⟩
theorem pairs_none (n l b c : Nat) (a : Option Addr) (J : List (BLab × BLab) → World → Prop) (W : World) (hBx : RowAt W b 29 [.slice a 0 c]) (h0 : J [] W) :
    CallsIn Fence.wide n Tryd.prog 40 #[.func (.yield l) #[] #[], .pointer (some ⟨b, 0, none⟩)] W fun e W' => (∃ v, e = .returned v) ∧ J [] W' := by
  refine callsIn_of_wp Tryd.func40 rfl trivial ?_
  simp only [Tryd.ntmps40, List.size_toArray, List.length_cons, List.length_nil, Nat.reduceAdd, Nat.reduceSub, Array.replicate_succ, Array.replicate_zero, List.push_toArray, List.append_toArray, List.nil_append, List.cons_append]
  obtain ⟨c0, f0, l0⟩ := hBx.one
  rcases a with _ | a
  all_goals
    gi_wp2
    refine wpIn_loop_rounds 1 ?_
    rw [roundsIn_succ]
    gi_wp2
    go_end0
    exact ⟨⟨_, rfl⟩, h0⟩

theorem pairs_stops (n b : Nat) (v : Value) (L : List BLab) (w : World) (hBx : RowAt w b 29 [v]) (hL : LabelsAt w.heap.size w v L) :
    SeqStopsK Fence.wide n Tryd.prog 40 #[.pointer (some ⟨b, 0, none⟩)] pairArgs (KeptAt (fun k => k = b ∨ (L ≠ [] ∧ v.ownBlock = some k))) (fun ys => ys = pairsL L) (fun pre => pre <+: pairsL L) L.length w := fun l J Jx W hW hJ hJx hY h0 => by
  have hbl := hBx.lt
  have hBx' : RowAt W b 29 [v] := hBx.same (hW.block b hbl)
  have hL' : LabelsAt W.heap.size W v L := hL.at_ hW
  have hJd : ∀ pre W W', J pre W → Below W.heap.size W W' → J pre W' := fun pre W W' hp hb => hJ pre W W' none hp ⟨hb.os, hb.tape, hb.output, hb.size, fun k hk _ => hb.block k hk⟩ (fun r e => by cases e)
  obtain ⟨n1, n2, ⟨a, rfl, rfl⟩ | ⟨a, off, cap, rfl, n3, n4, n5⟩⟩ := hL'
  · refine (pairs_none n l b 0 a J W hBx' h0).mono ?_
    rintro e W' ⟨h1, h2⟩
    exact ⟨h1, .inl ⟨[], rfl, h2⟩⟩
  · by_cases hne : L = []
    · subst hne
      refine (pairs_none n l b cap (some ⟨a, off, none⟩) J W hBx' h0).mono ?_
      rintro e W' ⟨h1, h2⟩
      exact ⟨h1, .inl ⟨[], rfl, h2⟩⟩
    · exact pairs_in _ n l b a off cap (.inl rfl) (.inr ⟨hne, rfl⟩) L J Jx hY W n2 hBx' n3 n4 n5 hJd h0

theorem pairs_any (p : Option Addr) (n c : Nat) (w : World) :
    Calls Tryd.prog 27 #[.slice p n c] w fun e w' => e = .returned (.func (.func 40) #[] #[.pointer (some ⟨w.heap.size, 0, none⟩)]) ∧ w.alloc (.cells #[.slice p n c] 29) = w' := by
  go_enter Tryd.func27, Tryd.ntmps27
  go_wp2
  go_ret
  exact ⟨rfl, rfl⟩
end Go.Proofs.YtjhdgpboofcelaaDoor
