/- Package hist: sums, a function to range over. -/
import Derived.Test.YtnoemopaplopdaaHL
import Derived.Test.YtnoemopaplopdaaFence
namespace Go.Proofs.Ytnoemopaplopdaa
open Go.RowKit Go.Maps
attribute [local go_sem] Oper.semAt_some

theorem sums_any (f : Int) (v : Value) (w : World) :
    Calls Try.prog 44 #[HistV f v] w fun e w' => e = .returned (.func (.func 49) #[] #[.pointer (some ⟨w.heap.size, 0, none⟩)]) ∧ w.alloc (.cells #[.int .i64 f, v] 25) = w' := by
  go_enter Try.func44, Try.ntmps44
  go_wp2
  go_ret
  exact ⟨rfl, rfl⟩

/-- The bins, each with the sum up to it. -/
def sumsFrom : Nat → List (Int × Nat) → List ((Int × Nat) × Nat)
  | _, [] => []
  | acc, b :: l => (b, satU acc b.2) :: sumsFrom (satU acc b.2) l
abbrev binArgs (x : (Int × Nat) × Nat) : Array Value := #[.agg #[.int .i64 x.1.1, .int .u64 (x.1.2 : Nat)], .int .u64 (x.2 : Nat)]
def KeptAt (S : Nat → Prop) (W W' : World) : Prop := ∀ k, S k → W'.heap[k]? = W.heap[k]?

theorem sumsFrom_length : ∀ (acc : Nat) (L : List (Int × Nat)), (sumsFrom acc L).length = L.length
  | _, [] => rfl
  | acc, b :: l => by simp [sumsFrom, sumsFrom_length _ l]
theorem sumsFrom_drop : ∀ (acc : Nat) (L : List (Int × Nat)) (k : Nat), ∃ acc', (sumsFrom acc L).drop k = sumsFrom acc' (L.drop k)
  | acc, L, 0 => ⟨acc, by simp⟩
  | acc, [], k + 1 => ⟨acc, by simp [sumsFrom]⟩
  | acc, b :: l, k + 1 => by
    obtain ⟨a', h⟩ := sumsFrom_drop (satU acc b.2) l k
    exact ⟨a', by simpa [sumsFrom] using h⟩
set_option maxRecDepth 100000 in
set_option maxHeartbeats 1000000 in
theorem sums_in (n l b : Nat) (f : Int) (v : Value) (L : List (Int × Nat)) (J Jx : List ((Int × Nat) × Nat) → World → Prop)
    (hY : ∀ pre x W, J pre W → pre.length < L.length → YieldAt Fence.wide (n - 1) Try.prog l (binArgs x) W fun e W' =>
      (e = .returned (.bool true) ∧ J (pre ++ [x]) W' ∧ KeptAt (fun k => k = b ∨ (L ≠ [] ∧ v.ownBlock = some k)) W W') ∨ (e = .returned (.bool false) ∧ Jx (pre ++ [x]) W'))
    (W : World) (hBx : RowAt W b 25 [.int .i64 f, v]) (hL : BinsAt W.heap.size W v L) (hr : rightL f L = true) (hJd : ∀ pre W W', J pre W → Below W.heap.size W W' → J pre W') (h0 : J [] W) :
    CallsIn Fence.wide n Try.prog 49 #[.func (.yield l) #[] #[], .pointer (some ⟨b, 0, none⟩)] W fun e W' => (∃ v, e = .returned v) ∧
      ((∃ ys, ys = sumsFrom 0 L ∧ J ys W') ∨ (∃ pre, pre <+: sumsFrom 0 L ∧ Jx pre W')) := by
  refine callsIn_of_wp Try.func49 rfl trivial ?_
  simp only [Try.ntmps49, List.size_toArray, List.length_cons, List.length_nil, Nat.reduceAdd, Nat.reduceSub, Array.replicate_succ, Array.replicate_zero, List.push_toArray, List.append_toArray, List.nil_append, List.cons_append]
  obtain ⟨c0, c1, f0, f1, l1⟩ := hBx.two
  gi_wp2
  refine ⟨trivial, free_wide.room, (free_wide.calls (hr ▸ right_any f v L W hL)).mono ?_⟩
  rintro e W1 ⟨rfl, hb1⟩
  have hBx1 := hBx.below hb1 l1
  have hL1 := hL.at_ hb1
  have h01 := hJd _ _ _ h0 hb1
  obtain ⟨c0', c1', f0', f1', l1'⟩ := hBx1.two
  obtain ⟨n1, n2, ⟨a, rfl, rfl⟩ | ⟨a, off, cap, rfl, n3, n4, n5⟩⟩ := id hL1
  · rcases a with _ | a
    all_goals
      gi_wp2
      refine wpIn_loop_rounds 1 ?_
      rw [roundsIn_succ]
      gi_wp2
      go_end0
      exact ⟨⟨_, rfl⟩, .inl ⟨_, rfl, by simpa [sumsFrom] using h01⟩⟩
  · gi_wp2
    have hKA : L ≠ [] → ∀ {X Y : World}, KeptAt (fun k => k = b ∨ (L ≠ [] ∧ (Value.slice (some ⟨a, off, none⟩) L.length cap).ownBlock = some k)) X Y → Y.heap[b]? = X.heap[b]? ∧ Y.heap[a]? = X.heap[a]? := fun hne _ _ h => ⟨h b (.inl rfl), h a (.inr ⟨hne, rfl⟩)⟩
    gi_loopw [3, 12] (fun acc i wr => ∃ (k s : Nat), k ≤ L.length ∧ i = .int .i64 k ∧ acc = .int .u64 s ∧ s ≤ maxU ∧ (sumsFrom 0 L).drop k = sumsFrom s (L.drop k) ∧ J ((sumsFrom 0 L).take k) wr ∧ wr.heap[b]? = W1.heap[b]? ∧ wr.heap[a]? = W1.heap[a]?)
      (fun _ i _ => L.length - (intOf i).toNat)
    case atStart => exact ⟨0, 0, by omega, rfl, rfl, by unfold maxU; omega, by simp, by simpa using h01, rfl, rfl⟩
    case round =>
      obtain ⟨k, s, hk, rfl, rfl, hs, hd, hJ, hkb, hka⟩ := hrel
      by_cases hlk : k < L.length
      · obtain ⟨hc0, hc1⟩ := n5 k hlk
        rw [← World.cell?_of_block (a := ⟨a, off + k * 2, none⟩) hka] at hc0
        rw [← World.cell?_of_block (a := ⟨a, off + k * 2 + 1, none⟩) hka] at hc1
        have hin := n1 _ (List.getElem_mem hlk)
        rw [List.drop_eq_getElem_cons hlk] at hd
        rcases hLk : L[k] with ⟨p, n0⟩
        rw [hLk] at hd hin hc0 hc1
        simp only [sumsFrom] at hd
        have hal : a < wr.heap.size := by
          rcases Nat.lt_or_ge a wr.heap.size with h | h
          · exact h
          · simp [World.cell?, Array.getElem?_eq_none h] at hc0
        have hbl : b < wr.heap.size := (hBx1.same hkb).lt
        have HD := Lib.hid hd
        clear hd
        gi_wp2
        have hBX : Below wr.heap.size wr ((wr.alloc (.cells #[.int .i64 p, .int .u64 n0] 65)).alloc (.cells #[.int .u64 s, .int .u64 n0] 22)) := (by repeat (first | exact Below.refl _ _ | assumption | (refine Below.setCell ?_ (by (first | omega | (simp; done) | (simp; omega) | (simp at *; omega))) _) | (refine Below.alloc ?_ (by (first | omega | (simp; done) | (simp; omega) | (simp at *; omega))) _) | (refine Below.drew ?_) | (refine Gr.into _ ?_ (by (first | omega | (simp; done) | (simp; omega) | (simp at *; omega))))))
        have bX : RowAt ((wr.alloc (.cells #[.int .i64 p, .int .u64 n0] 65)).alloc (.cells #[.int .u64 s, .int .u64 n0] 22)) wr.heap.size 65 [.int .i64 p, .int .u64 n0] := (by repeat (first | assumption | exact RowAt.new_at _ _ _ _ (by (first | omega | (simp; done) | (simp; omega) | (simp at *; omega))) | (refine RowAt.alloc ?_ _) | (refine RowAt.gr ?_ _) | (refine RowAt.setOther ?_ _ _ (by (first | omega | (simp; done) | (simp; omega) | (simp at *; omega)))) | (refine RowAt.drew ?_)))
        have qX : RowAt ((wr.alloc (.cells #[.int .i64 p, .int .u64 n0] 65)).alloc (.cells #[.int .u64 s, .int .u64 n0] 22)) (wr.heap.size + 1) 22 [.int .u64 s, .int .u64 n0] := (by repeat (first | assumption | exact RowAt.new_at _ _ _ _ (by (first | omega | (simp; done) | (simp; omega) | (simp at *; omega))) | (refine RowAt.alloc ?_ _) | (refine RowAt.gr ?_ _) | (refine RowAt.setOther ?_ _ _ (by (first | omega | (simp; done) | (simp; omega) | (simp at *; omega)))) | (refine RowAt.drew ?_)))
        generalize (wr.alloc (.cells #[.int .i64 p, .int .u64 n0] 65)).alloc (.cells #[.int .u64 s, .int .u64 n0] 22) = X at *
        obtain ⟨qc0, qc1, -, -, -⟩ := qX.two
        obtain ⟨bc0, bc1, bf0, bf1, bl⟩ := bX.two
        refine ⟨trivial, free_wide.room, (free_wide.calls (plus_two s n0 _ X hs (by unfold maxU; omega) qc0 qc1)).mono ?_⟩
        rintro e W2 ⟨rfl, rfl⟩
        have hJX := hJd _ _ _ hJ hBX
        have hlt2 : k < (sumsFrom 0 L).length := by rw [sumsFrom_length]; exact hlk
        have hxk : (sumsFrom 0 L)[k] = ((p, n0), satU s n0) := by
          have := HD.out
          rw [List.drop_eq_getElem_cons hlt2] at this
          exact (List.cons.inj this).1
        obtain ⟨fn, tmps, assign, body, hy, hRr⟩ := hY _ ((p, n0), satU s n0) X hJX (by rw [List.length_take, sumsFrom_length]; omega)
        have hs2 : satU s n0 ≤ maxU := Nat.min_le_right _ _
        have htk : (sumsFrom 0 L).take (k + 1) = (sumsFrom 0 L).take k ++ [((p, n0), satU s n0)] := by rw [List.take_succ_eq_append_getElem hlt2, hxk]
        have hdr : (sumsFrom 0 L).drop (k + 1) = sumsFrom (satU s n0) (L.drop (k + 1)) := by
          have := HD.out
          rw [List.drop_eq_getElem_cons hlt2] at this
          exact (List.cons.inj this).2
        rw [← htk] at hRr
        have HT := Lib.hid hdr
        clear hdr htk hxk
        generalize satU s n0 = s2 at *
        gi_wp2
        refine ⟨free_wide.room, hRr.mono ?_⟩
        rintro e W3 (⟨rfl, hJ3, hk3⟩ | ⟨rfl, hJx3⟩)
        · have hkk := hKA (by rintro rfl; simp at hlk) hk3
          gi_wp2
          go_roundw
          case rel => exact ⟨k + 1, s2, by omega, by go_num, rfl, hs2, HT.out, hJ3, by rw [hkk.1, hBX.block b hbl, hkb], by rw [hkk.2, hBX.block a hal, hka]⟩
          case measure => simp [intOf]; omega
        · gi_wp2
          refine bodyPost_ret (results_none rfl _ _ _) rfl ?_
          exact ⟨⟨_, rfl⟩, .inr ⟨_, List.take_prefix _ _, hJx3⟩⟩
      · obtain rfl : k = L.length := by omega
        gi_wp2
        go_end0
        rw [List.take_of_length_le (by rw [sumsFrom_length]; omega)] at hJ
        exact ⟨⟨_, rfl⟩, .inl ⟨_, rfl, hJ⟩⟩
end Go.Proofs.Ytnoemopaplopdaa
