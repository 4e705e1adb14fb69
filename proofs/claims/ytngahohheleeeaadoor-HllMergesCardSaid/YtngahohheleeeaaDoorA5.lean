/- Package hll's Merge: a range over a function. -/
import Derived.Test.YtngahohheleeeaaDoorA4
import Derived.Test.YtngahohheleeeaaDoorFence
namespace Go.Proofs.YtngahohheleeeaaDoor
open Go.RowKit
attribute [local go_sem] Oper.semAt_some

theorem greater_any (a b : Int) (w : World) :
    Calls Tryd.prog 26 #[.int .u8 a, .int .u8 b] w fun e w' => e = .returned (.int .u8 (max a b)) ∧ w = w' := by
  go_enter Tryd.func26, Tryd.ntmps26
  go_wp2
  go_ret
  exact ⟨rfl, rfl⟩

/-- A register and what counts of two. -/
abbrev Reg (N : Nat) : Type := { x : Nat × UInt8 // x.1 < N }
abbrev regArgs {N : Nat} (x : Reg N) : Array Value := #[.int .i64 x.1.1, .int .u8 x.1.2.toNat]
/-- The blocks from lo up to hi lie as they lay. -/
def Kept (lo hi : Nat) (W W' : World) : Prop := ∀ k, lo ≤ k → k < hi → W'.heap[k]? = W.heap[k]?
theorem Kept.trans {lo hi : Nat} {A B C : World} (h : Kept lo hi A B) (k : Kept lo hi B C) : Kept lo hi A C := fun i h1 h2 => (k i h1 h2).trans (h i h1 h2)
theorem Kept.putObj {lo hi : Nat} {w : World} (hh : hi ≤ w.heap.size) (W : World) (l : Nat) (o o' : Obj) (hl : w.heap.size ≤ l) (_ : W.heap[l]? = some o) (_ : o.isCells = false) (_ : o.isWalk = false) : Kept lo hi W (W.putObj l o') :=
  fun k _ h2 => World.putObj_heap_other (by omega)
/-- What counts of two texts' registers, up to the k-th. -/
def regsUpTo (N : Nat) (s t : List UInt8) : (k : Nat) → k ≤ N → List (Reg N)
  | 0, _ => []
  | k + 1, h => regsUpTo N s t k (by omega) ++ [⟨(k, max (s.getD k 0) (t.getD k 0)), by show k < N; omega⟩]
theorem regsUpTo_length (N : Nat) (s t : List UInt8) : ∀ (k : Nat) (h : k ≤ N), (regsUpTo N s t k h).length = k
  | 0, _ => rfl
  | k + 1, h => by simp [regsUpTo, regsUpTo_length N s t k (by omega)]

/-- The boxes of the iterator. -/
def Boxes (w : World) (b : Nat) (s t : ByteArray) : Prop :=
  RowAt w b 58 [.func (.func 26) #[] #[]] ∧ RowAt w (b + 1) 9 [.string s] ∧ RowAt w (b + 2) 9 [.string t]
theorem Boxes.same {w w' : World} {b : Nat} {s t : ByteArray} (h : Boxes w b s t) (hk : ∀ k, b ≤ k → k < b + 3 → w'.heap[k]? = w.heap[k]?) : Boxes w' b s t :=
  ⟨h.1.same (hk _ (by omega) (by omega)), h.2.1.same (hk _ (by omega) (by omega)), h.2.2.same (hk _ (by omega) (by omega))⟩

theorem umax2 (x y : UInt8) : ((max x y).toNat : Int) = max (x.toNat : Int) (y.toNat : Int) := by
  have e : max x y = if x ≤ y then y else x := rfl
  rw [e]
  by_cases h3 : x ≤ y
  · rw [if_pos h3]
    rw [UInt8.le_iff_toNat_le] at h3
    omega
  · rw [if_neg h3]
    rw [UInt8.le_iff_toNat_le] at h3
    omega
theorem byte_getD (s : ByteArray) (k : Nat) (h : k < s.size) : s.data.toList.getD k 0 = s[k] := by
  have h' : k < s.data.toList.length := h
  rw [List.getD_eq_getElem?_getD, List.getElem?_eq_getElem h']
  rfl
theorem byte_mem (s : ByteArray) (k : Nat) (h : k < s.size) : s[k] ∈ s.data.toList := by
  have h' : k < s.data.toList.length := h
  exact List.getElem_mem h'
theorem regsUpTo_prefix (N : Nat) (s t : List UInt8) (k : Nat) (h : k ≤ N) : ∀ (m : Nat) (hm : m ≤ N), k ≤ m → regsUpTo N s t k h <+: regsUpTo N s t m hm
  | 0, _, hk => by obtain rfl : k = 0 := by omega
                   exact List.prefix_refl _
  | m + 1, hm, hk => by
    by_cases e : k = m + 1
    · subst e; exact List.prefix_refl _
    · exact (regsUpTo_prefix N s t k h m (by omega) (by omega)).trans (List.prefix_append _ _)
theorem chosen_in (n l b : Nat) (s t : ByteArray) (hst : s.size ≤ t.size) (hs : s.size ≤ 256) (J Jx : List (Reg s.size) → World → Prop)
    (hY : ∀ pre x W, J pre W → pre.length < s.size → YieldAt Fence.wide (n - 1) Tryd.prog l (regArgs x) W fun e W' =>
      (e = .returned (.bool true) ∧ J (pre ++ [x]) W' ∧ Kept b (b + 3) W W') ∨ (e = .returned (.bool false) ∧ Jx (pre ++ [x]) W'))
    (W : World) (hBx : Boxes W b s t) (hJd : ∀ pre W W', J pre W → Below W.heap.size W W' → J pre W') (h0 : J [] W) :
    CallsIn Fence.wide n Tryd.prog 46 #[.func (.yield l) #[] #[], .pointer (some ⟨b + 1, 0, none⟩), .pointer (some ⟨b, 0, none⟩), .pointer (some ⟨b + 2, 0, none⟩)] W fun e W' => (∃ v, e = .returned v) ∧
      ((∃ ys, ys = regsUpTo s.size s.data.toList t.data.toList s.size (Nat.le_refl _) ∧ J ys W') ∨ (∃ pre, pre <+: regsUpTo s.size s.data.toList t.data.toList s.size (Nat.le_refl _) ∧ Jx pre W')) := by
  refine callsIn_of_wp Tryd.func46 rfl trivial ?_
  simp only [Tryd.ntmps46, List.size_toArray, List.length_cons, List.length_nil, Nat.reduceAdd, Nat.reduceSub, Array.replicate_succ, Array.replicate_zero, List.push_toArray, List.append_toArray, List.nil_append, List.cons_append]
  obtain ⟨c1, f1, l1⟩ := hBx.2.1.one
  gi_wp2
  gi_loopw [5, 8] (fun _ i wr => ∃ (k : Nat) (hk : k ≤ s.size), i = .int .i64 k ∧ Boxes wr b s t ∧ J (regsUpTo s.size s.data.toList t.data.toList k hk) wr)
    (fun _ i _ => s.size - (intOf i).toNat)
  case atStart => exact ⟨0, Nat.zero_le _, rfl, hBx, h0⟩
  case round =>
    obtain ⟨k, hk, rfl, hb, hJ⟩ := hrel
    by_cases hlt : k < s.size
    · have hlt2 : k < t.size := by omega
      obtain ⟨c0, f0, l0⟩ := hb.1.one
      obtain ⟨c1, f1, l1⟩ := hb.2.1.one
      obtain ⟨c2, f2, l2⟩ := hb.2.2.one
      have y1 := s[k].toNat_lt
      have y2 := t[k].toNat_lt
      gi_wp2
      refine wpIn_region_gr_tail 11 free_wide (by kernel_rfl) (by kernel_rfl) ?_
      simp only [List.take_succ_cons, List.take_zero, List.drop_succ_cons, List.drop_zero]
      repeat (go_big_quiet_step (first | (go_at_call 26; exact Calls.gr (below_self (greater_any _ _ _)))))
      refine wpQuiet_nil ?_
      intro g
      have hlen := regsUpTo_length s.size s.data.toList t.data.toList k hk
      obtain ⟨fn, tmps, assign, body, hy, hR⟩ := hY _ ⟨(k, max (s.data.toList.getD k 0) (t.data.toList.getD k 0)), hlt⟩ g.world (hJd _ _ _ hJ g.below) (by omega)
      have hargs : (regArgs (N := s.size) ⟨(k, max (s.data.toList.getD k 0) (t.data.toList.getD k 0)), hlt⟩) = #[.int .i64 k, .int .u8 (max (s[k].toNat : Int) (t[k].toNat : Int))] := by
        show #[Value.int .i64 (k : Int), Value.int .u8 (((max (s.data.toList.getD k 0) (t.data.toList.getD k 0)).toNat : Nat) : Int)] = _
        rw [umax2, byte_getD s k hlt, byte_getD t k hlt2]
      rw [hargs] at hy
      clear hargs
      have hb2 : Boxes g.world b s t := hb.same fun i _ _ => g.below.block i (by omega)
      gi_wp2
      refine ⟨free_wide.room, hR.mono ?_⟩
      rintro e W3 (⟨rfl, hJ3, hk3⟩ | ⟨rfl, hJx3⟩)
      · have hb3 := hb2.same hk3
        gi_wp2
        go_roundw
        case rel => exact ⟨k + 1, by omega, by go_num, hb3, hJ3⟩
        case measure => simp [intOf]; omega
      · gi_wp2
        refine bodyPost_ret (results_none rfl _ _ _) rfl ?_
        exact ⟨⟨_, rfl⟩, .inr ⟨_, regsUpTo_prefix _ _ _ (k + 1) (by omega) _ _ (by omega), hJx3⟩⟩
    · gi_wp2
      go_end0
      have : k = s.size := by omega
      subst this
      exact ⟨⟨_, rfl⟩, .inl ⟨_, rfl, hJ⟩⟩

theorem chosen_stops (n b : Nat) (s t : ByteArray) (hst : s.size ≤ t.size) (hs : s.size ≤ 256) (w : World) (hBx : Boxes w b s t) :
    SeqStopsK Fence.wide n Tryd.prog 46 #[.pointer (some ⟨b + 1, 0, none⟩), .pointer (some ⟨b, 0, none⟩), .pointer (some ⟨b + 2, 0, none⟩)] (regArgs (N := s.size)) (Kept b (b + 3))
      (fun ys => ys = regsUpTo s.size s.data.toList t.data.toList s.size (Nat.le_refl _)) (fun pre => pre <+: regsUpTo s.size s.data.toList t.data.toList s.size (Nat.le_refl _)) s.size w := fun l J Jx W hW hJ hJx hY h0 => by
  have hlt := hBx.2.2.lt
  refine chosen_in n l b s t hst hs J Jx hY W (hBx.same fun k _ _ => hW.block k (by omega)) ?_ h0
  exact fun pre W W' hp hb => hJ pre W W' none hp ⟨hb.os, hb.tape, hb.output, hb.size, fun k hk _ => hb.block k hk⟩ (fun r e => by cases e)
end Go.Proofs.YtngahohheleeeaaDoor
