/- Package hist: add. -/
import Derived.Test.YtnoemopaplopdaaHE
import Derived.Test.YtnoemopaplopdaaLast
namespace Go.Proofs.Ytnoemopaplopdaa
open Go.RowKit Go.Maps

def addB (M : List (Int × Nat)) (b : Int × Nat) : List (Int × Nat) := if satU (getM M b.1) b.2 = 0 then delM M b.1 else putM M b.1 (satU (getM M b.1) b.2)
theorem addB_length (M : List (Int × Nat)) (b : Int × Nat) : (addB M b).length ≤ M.length + 1 := by
  unfold addB
  split
  · have := List.length_filter_le (fun p : Int × Nat => !decide (p.1 = b.1)) M
    unfold delM; omega
  · exact length_putM _ _ _
theorem addBs_length (L : List (Int × Nat)) : ∀ M : List (Int × Nat), (L.foldl addB M).length ≤ M.length + L.length := by
  induction L with
  | nil => intro M; simp
  | cons b L ih => intro M; have h1 := ih (addB M b); have h2 := addB_length M b; simp only [List.foldl_cons, List.length_cons]; omega
/-- All numbers of a map fit. -/
def FitM (M : List (Int × Nat)) : Prop := ∀ p ∈ M, p.2 ≤ maxU
theorem getM_fit {M : List (Int × Nat)} (h : FitM M) (a : Int) : getM M a ≤ maxU := by
  unfold getM
  split
  · rename_i p hp; exact h p (List.mem_of_find?_eq_some hp)
  · unfold maxU; omega
theorem fit_insM {x : Int × Nat} (hx : x.2 ≤ maxU) : ∀ {M : List (Int × Nat)}, FitM M → FitM (insM x M)
  | [], _ => by intro p hp; simp [insM] at hp; subst hp; exact hx
  | y :: r, h => by
    unfold insM
    split
    · intro p hp
      rcases List.mem_cons.1 hp with rfl | hp
      · exact hx
      · exact h p hp
    · intro p hp
      rcases List.mem_cons.1 hp with rfl | hp
      · exact h _ (by simp)
      · exact fit_insM hx (M := r) (fun q hq => h q (by simp [hq])) p hp
theorem fit_delM {M : List (Int × Nat)} (h : FitM M) (a : Int) : FitM (delM M a) := fun p hp => h p (List.mem_filter.1 hp).1
theorem fit_addB {M : List (Int × Nat)} (h : FitM M) (b : Int × Nat) : FitM (addB M b) := by
  unfold addB
  split
  · exact fit_delM h _
  · exact fit_insM (Nat.min_le_right _ _) (fit_delM h _)
theorem fit_addBs (L : List (Int × Nat)) : ∀ {M : List (Int × Nat)}, FitM M → FitM (L.foldl addB M) := by
  induction L with
  | nil => intro M h; exact h
  | cons b L ih => intro M h; exact ih (fit_addB h b)

set_option maxRecDepth 100000 in
set_option maxHeartbeats 1000000 in
theorem add_some (B bw bm a off cap : Nat) (f : Int) (L M : List (Int × Nat)) (w : World) (h1 : ∀ b ∈ L, -9223372036854775808 ≤ b.1 ∧ b.1 ≤ 9223372036854775807 ∧ b.2 < 18446744073709551616) (h2 : M.length + L.length ≤ 4611686018427387904) (ha : a < w.heap.size)
    (hc : ∀ i (h : i < L.length), w.cell? ⟨a, off + i * 2, none⟩ = some (.int .i64 L[i].1) ∧ w.cell? ⟨a, off + i * 2 + 1, none⟩ = some (.int .u64 (L[i].2 : Nat)))
    (hw : RowAt w bw 78 [.map (some bm), .int .i64 f]) (hM : CountsAt w bm M) (hF : FitM M) (hBm : B ≤ bm) (hBw : B ≤ w.heap.size) :
    Calls Try.prog 39 #[.pointer (some ⟨bw, 0, none⟩), .slice (some ⟨a, off, none⟩) L.length cap] w fun e w' => e = .returned (.tuple #[]) ∧ CountsAt w' bm (L.foldl addB M) ∧ RowAt w' bw 78 [.map (some bm), .int .i64 f] ∧ Below B w w' ∧ (∀ k, k < w.heap.size → k ≠ bm → w'.heap[k]? = w.heap[k]?) := by
  go_enter Try.func39, Try.ntmps39
  go_wp2
  go_loopw [8] (fun i wr => ∃ k : Nat, k ≤ L.length ∧ i = .int .i64 k ∧ CountsAt wr bm ((L.take k).foldl addB M) ∧ RowAt wr bw 78 [.map (some bm), .int .i64 f] ∧ Below B w wr ∧ (∀ k, k < w.heap.size → k ≠ bm → wr.heap[k]? = w.heap[k]?))
    (fun i _ => L.length - (intOf i).toNat)
  case atStart => exact ⟨0, by omega, rfl, by simpa using hM, hw, Below.refl _ _, fun _ _ _ => rfl⟩
  case round =>
    obtain ⟨k, hk, rfl, hC, hr, hB, hO⟩ := hrel
    by_cases hlk : k < L.length
    · obtain ⟨hc0, hc1⟩ := hc k hlk
      have hane : a ≠ bm := by
        rintro rfl
        exact absurd rfl (hM.ne_cell hc0)
      have hcell : ∀ o, wr.cell? ⟨a, o, none⟩ = w.cell? ⟨a, o, none⟩ := fun o => World.cell?_of_block (a := ⟨a, o, none⟩) (hO a ha hane)
      rw [← hcell] at hc0 hc1
      have hin := h1 _ (List.getElem_mem hlk)
      have hal : a < wr.heap.size := Nat.lt_of_lt_of_le ha hB.size
      have hstep : (L.take (k + 1)).foldl addB M = addB ((L.take k).foldl addB M) L[k] := by
        rw [List.take_succ_eq_append_getElem hlk, List.foldl_append]; rfl
      have hlen := addBs_length (L.take k) M
      rw [List.length_take_of_le (by omega)] at hlen
      have hfit := fit_addBs (L.take k) hF
      rcases hL : L[k] with ⟨p, n⟩
      rw [hL] at hin hc0 hc1 hstep
      have hwf := wf_i64 ⟨hin.1, hin.2.1⟩
      have HS := Lib.hid hstep
      clear hstep hc hcell
      generalize (L.take k).foldl addB M = N at *
      obtain ⟨rc0, rc1, rf0, rf1, rl⟩ := hr.two
      go_wp2
      refine wp_named (fun W hW => ?_)
      have hBW : Below wr.heap.size wr W := by rw [hW]; exact (by repeat (first | exact Below.refl _ _ | assumption | (refine Below.setCell ?_ (by (first | omega | (simp; done) | (simp; omega) | (simp at *; omega))) _) | (refine Below.alloc ?_ (by (first | omega | (simp; done) | (simp; omega) | (simp at *; omega))) _) | (refine Below.drew ?_) | (refine Gr.into _ ?_ (by (first | omega | (simp; done) | (simp; omega) | (simp at *; omega))))))
      have r : RowAt W (bw) 78 [.map (some bm), .int .i64 f] := by rw [hW]; exact (by repeat (first | assumption | exact RowAt.new_at _ _ _ _ (by (first | omega | (simp; done) | (simp; omega) | (simp at *; omega))) | (refine RowAt.alloc ?_ _) | (refine RowAt.gr ?_ _) | (refine RowAt.setOther ?_ _ _ (by (first | omega | (simp; done) | (simp; omega) | (simp at *; omega)))) | (refine RowAt.drew ?_)))
      have b : RowAt W (wr.heap.size) 65 [.int .i64 p, .int .u64 n] := by rw [hW]; exact (by repeat (first | assumption | exact RowAt.new_at _ _ _ _ (by (first | omega | (simp; done) | (simp; omega) | (simp at *; omega))) | (refine RowAt.alloc ?_ _) | (refine RowAt.gr ?_ _) | (refine RowAt.setOther ?_ _ _ (by (first | omega | (simp; done) | (simp; omega) | (simp at *; omega)))) | (refine RowAt.drew ?_)))
      have hCW : CountsAt W bm N := by rw [hW]; exact World.ownsMap.alloc hC _
      clear hW
      obtain ⟨rc0, rc1, rf0, rf1, rl⟩ := r.two
      obtain ⟨bc0, bc1, bf0, bf1, bl⟩ := b.two
      have hbm := hC.lt
      have hlook : ∀ g : Gr W, (Instr.lookup 76 (.map (some bm)) (.int .i64 p) false).run Try.prog g.world = .ok (.int .u64 (getM N p : Nat)) g.world := fun g => (hCW.below g.below hCW.lt).look hwf
      have hNf := getM_fit hfit p
      generalize hg0 : getM N p = c0 at *
      refine wp_region_gr_chainN 15 2 (by kernel_rfl) (by kernel_rfl) ?_
      simp only [List.take_succ_cons, List.take_zero, List.drop_succ_cons, List.drop_zero]
      repeat (go_big_quiet_step (first | fail))
      refine wpQuiet_nil ?_
      intro g
      have hgl := g.le
      refine wpChain_cons (fun K hK => ?_)
      go_wp2
      refine ⟨Gr.of (by repeat (first | exact Below.refl _ _ | assumption | (refine Below.setCell ?_ (by (first | omega | (simp; done) | (simp; omega) | (simp at *; omega))) _) | (refine Below.alloc ?_ (by (first | omega | (simp; done) | (simp; omega) | (simp at *; omega))) _) | (refine Below.drew ?_) | (refine Gr.into _ ?_ (by (first | omega | (simp; done) | (simp; omega) | (simp at *; omega)))))), ?_⟩
      refine wpChain_cons (fun K hK => ?_)
      go_wp2_with fail
      refine Calls.named (fun V hV => ?_)
      have hBV : Below W.heap.size W V := by rw [hV]; exact (by repeat (first | exact Below.refl _ _ | assumption | (refine Below.setCell ?_ (by (first | omega | (simp; done) | (simp; omega) | (simp at *; omega))) _) | (refine Below.alloc ?_ (by (first | omega | (simp; done) | (simp; omega) | (simp at *; omega))) _) | (refine Below.drew ?_) | (refine Gr.into _ ?_ (by (first | omega | (simp; done) | (simp; omega) | (simp at *; omega))))))
      have q : RowAt V (g.world.heap.size) 22 [.int .u64 c0, .int .u64 n] := by rw [hV]; exact (by repeat (first | assumption | exact RowAt.new_at _ _ _ _ (by (first | omega | (simp; done) | (simp; omega) | (simp at *; omega))) | (refine RowAt.alloc ?_ _) | (refine RowAt.gr ?_ _) | (refine RowAt.setOther ?_ _ _ (by (first | omega | (simp; done) | (simp; omega) | (simp at *; omega)))) | (refine RowAt.drew ?_)))
      have r2 : RowAt V (bw) 78 [.map (some bm), .int .i64 f] := by rw [hV]; exact (by repeat (first | assumption | exact RowAt.new_at _ _ _ _ (by (first | omega | (simp; done) | (simp; omega) | (simp at *; omega))) | (refine RowAt.alloc ?_ _) | (refine RowAt.gr ?_ _) | (refine RowAt.setOther ?_ _ _ (by (first | omega | (simp; done) | (simp; omega) | (simp at *; omega)))) | (refine RowAt.drew ?_)))
      have b2 : RowAt V (wr.heap.size) 65 [.int .i64 p, .int .u64 n] := by rw [hV]; exact (by repeat (first | assumption | exact RowAt.new_at _ _ _ _ (by (first | omega | (simp; done) | (simp; omega) | (simp at *; omega))) | (refine RowAt.alloc ?_ _) | (refine RowAt.gr ?_ _) | (refine RowAt.setOther ?_ _ _ (by (first | omega | (simp; done) | (simp; omega) | (simp at *; omega)))) | (refine RowAt.drew ?_)))
      clear hV
      obtain ⟨qc0, qc1, qf0, qf1, ql⟩ := q.two
      obtain ⟨r2c0, r2c1, r2f0, r2f1, r2l⟩ := r2.two
      obtain ⟨b2c0, b2c1, b2f0, b2f1, b2l⟩ := b2.two
      have hCV : CountsAt V bm N := hCW.below hBV hCW.lt
      refine Calls.mono (plus_two c0 n g.world.heap.size V hNf (by unfold maxU; omega) qc0 qc1) ?_
      rintro e w2 ⟨rfl, rfl⟩
      go_wp2_with fail
      refine ⟨Gr.of hBV, ?_⟩
      refine wpChain_free (fun K hK => ?_)
      have hsU : satU c0 n ≤ maxU := Nat.min_le_right _ _
      have hadd : addB N (p, n) = if satU c0 n = 0 then delM N p else putM N p (satU c0 n) := by unfold addB; rw [hg0]
      have HA := Lib.hid hadd
      clear hadd
      generalize satU c0 n = s0 at *
      obtain ⟨X, hrX, hCX, hTX⟩ := hCV.put (by unfold maxLen; omega) hwf (n := s0) (by unfold maxU at hsU; omega)
      have hbwm := hCV.ne r2
      have hbbm := hCV.ne b2
      have r3 := r2.turned hTX hbwm
      have b3 := b2.turned hTX hbbm
      have hBX : Below B w X := hB.trans ((hBW.mono (by have := hB.size; omega)).trans ((hBV.mono (by have := hB.size; have := hBW.size; omega)).trans (below_turned hTX hBm)))
      have hOX : ∀ k, k < w.heap.size → k ≠ bm → X.heap[k]? = w.heap[k]? := fun j hj hne => by
        have h3 := hB.size
        have h4 := hBW.size
        have h5 := hBV.size
        rw [hTX.grown.block j (by omega) (by simp; omega), hBV.block j (by omega), hBW.block j (by omega), hO j hj hne]
      have hl2 := getM_putM N p s0
      clear hlook hTX hNf
      go_wp2
      refine wpChain_end ?_
      go_wp2
      obtain ⟨r3c0, r3c1, r3f0, r3f1, r3l⟩ := r3.two
      obtain ⟨b3c0, b3c1, b3f0, b3f1, b3l⟩ := b3.two
      have hlook : ∀ g : Gr X, (Instr.lookup 76 (.map (some bm)) (.int .i64 p) false).run Try.prog g.world = .ok (.int .u64 (s0 : Nat)) g.world := fun g => by
        have := (hCX.below g.below hCX.lt).look hwf
        rwa [hl2] at this
      have hXs := hBX.size
      refine wp_region_gr (by kernel_rfl) (by kernel_rfl) ?_
      repeat (go_big_quiet_step (first | fail))
      refine wpQuiet_nil ?_
      intro g3
      have hg3 := g3.le
      by_cases hs0 : s0 = 0
      · subst hs0
        have hadd := HA.out
        rw [if_pos rfl] at hadd
        go_wp2
        refine wp_named (fun Y hY => ?_)
        have hBY : Below X.heap.size X Y := by rw [hY]; exact (by repeat (first | exact Below.refl _ _ | assumption | (refine Below.setCell ?_ (by (first | omega | (simp; done) | (simp; omega) | (simp at *; omega))) _) | (refine Below.alloc ?_ (by (first | omega | (simp; done) | (simp; omega) | (simp at *; omega))) _) | (refine Below.drew ?_) | (refine Gr.into _ ?_ (by (first | omega | (simp; done) | (simp; omega) | (simp at *; omega))))))
        have r4 : RowAt Y (bw) 78 [.map (some bm), .int .i64 f] := by rw [hY]; exact (by repeat (first | assumption | exact RowAt.new_at _ _ _ _ (by (first | omega | (simp; done) | (simp; omega) | (simp at *; omega))) | (refine RowAt.alloc ?_ _) | (refine RowAt.gr ?_ _) | (refine RowAt.setOther ?_ _ _ (by (first | omega | (simp; done) | (simp; omega) | (simp at *; omega)))) | (refine RowAt.drew ?_)))
        have b4 : RowAt Y (wr.heap.size) 65 [.int .i64 p, .int .u64 n] := by rw [hY]; exact (by repeat (first | assumption | exact RowAt.new_at _ _ _ _ (by (first | omega | (simp; done) | (simp; omega) | (simp at *; omega))) | (refine RowAt.alloc ?_ _) | (refine RowAt.gr ?_ _) | (refine RowAt.setOther ?_ _ _ (by (first | omega | (simp; done) | (simp; omega) | (simp at *; omega)))) | (refine RowAt.drew ?_)))
        clear hY
        obtain ⟨r4c0, r4c1, r4f0, r4f1, r4l⟩ := r4.two
        obtain ⟨b4c0, b4c1, b4f0, b4f1, b4l⟩ := b4.two
        have hCY := hCX.below hBY hCX.lt
        clear hlook
        refine wp_region_gr_tail 6 (by kernel_rfl) (by kernel_rfl) ?_
        simp only [List.take_succ_cons, List.take_zero, List.drop_succ_cons, List.drop_zero]
        repeat (go_big_quiet_step (first | fail))
        refine wpQuiet_nil ?_
        intro g4
        obtain ⟨Z, hrZ, hCZ, hTZ⟩ := (hCY.below g4.below hCY.lt).drop hwf 0
        go_wp2
        have r5 := (r4.gr g4).turned hTZ hbwm
        have hg4 := g4.le
        have hYs := hBY.size
        rw [delM_putM] at hCZ
        go_roundw
        case rel => exact ⟨k + 1, by omega, by go_num, by rw [HS.out, hadd]; exact hCZ, r5, hBX.trans ((hBY.mono (by omega)).trans ((g4.below.mono (by omega)).trans (below_turned hTZ hBm))), fun j hj hne => by rw [hTZ.grown.block j (by omega) (by simp; omega), g4.below.block j (by omega), hBY.block j (by omega), hOX j hj hne]⟩
        case measure => simp [intOf]; omega
      · have hs1 : ((s0 : Int) == 0) = false := by simp; omega
        have hadd := HA.out
        rw [if_neg hs0] at hadd
        go_wp2
        go_roundw
        case rel => exact ⟨k + 1, by omega, by go_num, by rw [HS.out, hadd]; exact hCX.below g3.below hCX.lt, r3.gr g3, hBX.trans (g3.below.mono (by omega)), fun j hj hne => by rw [g3.below.block j (by omega), hOX j hj hne]⟩
        case measure => simp [intOf]; omega
    · obtain rfl : k = L.length := by omega
      rw [List.take_length] at hC
      go_wp2
      go_end0
      exact ⟨rfl, hC, hr, hB, hO⟩
end Go.Proofs.Ytnoemopaplopdaa
