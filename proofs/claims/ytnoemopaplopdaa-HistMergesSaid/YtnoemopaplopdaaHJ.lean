/- Package hist: end. -/
import Derived.Test.YtnoemopaplopdaaHG
import Derived.Test.YtnoemopaplopdaaHI
namespace Go.Proofs.Ytnoemopaplopdaa
open Go.RowKit Go.Maps Go.Sort

def binCells (L : List (Int × Nat)) : List Value := L.flatMap fun p => [.int .i64 p.1, .int .u64 (p.2 : Nat)]
theorem binCells_length (L : List (Int × Nat)) : (binCells L).length = L.length * 2 := by
  induction L with
  | nil => rfl
  | cons p L ih => simp only [binCells, List.flatMap_cons, List.length_append, List.length_cons, List.length_nil] at ih ⊢; omega
theorem binCells_snoc (L : List (Int × Nat)) (p : Int × Nat) : binCells (L ++ [p]) = binCells L ++ [.int .i64 p.1, .int .u64 (p.2 : Nat)] := by
  simp [binCells]
theorem binCells_get : ∀ (L : List (Int × Nat)) (i : Nat) (h : i < L.length), (binCells L)[i * 2]? = some (.int .i64 L[i].1) ∧ (binCells L)[i * 2 + 1]? = some (.int .u64 (L[i].2 : Nat))
  | p :: L, 0, _ => by simp [binCells]
  | p :: L, i + 1, h => by
    have := binCells_get L i (by simpa using h)
    have e : binCells (p :: L) = .int .i64 p.1 :: .int .u64 (p.2 : Nat) :: binCells L := by simp [binCells]
    rw [e, show (i + 1) * 2 = i * 2 + 1 + 1 by omega]
    simpa using this
theorem getM_rising : ∀ {M : List (Int × Nat)}, Rising M → ∀ (i : Nat) (h : i < M.length), getM M M[i].1 = M[i].2
  | p :: M, hR, 0, _ => by simp [getM]
  | p :: M, hR, i + 1, h => by
    have hR' := List.pairwise_cons.1 hR
    have hi : i < M.length := by simpa using h
    have hlt := hR'.1 _ (List.getElem_mem hi)
    have := getM_rising hR'.2 i hi
    unfold getM at this ⊢
    rw [List.getElem_cons_succ, List.find?_cons_of_neg (by simp; omega)]
    exact this
theorem ownsRow_below {w W : World} {base : Nat} {e : TypeId} {size n : Nat} {v : Value} {xs : List Value} (h : w.ownsRow base e size v n xs) (hb : Below w.heap.size w W) : W.ownsRow base e size v n xs := by
  obtain ⟨h1, h2 | ⟨g, cap, cur, rfl, h3, h4, h5, h6, h7, h8⟩⟩ := h
  · exact ⟨h1, .inl h2⟩
  · exact ⟨h1, .inr ⟨g, cap, cur, rfl, h3, (hb.block g (Array.getElem?_eq_some_iff.1 h4).1).trans h4, h5, h6, h7, h8⟩⟩
theorem ownsRow_set {w : World} {base : Nat} {e : TypeId} {size n : Nat} {v : Value} {xs : List Value} (h : w.ownsRow base e size v n xs) (p : Addr) (u : Value) (hp : p.block < base) : (w.setCell p u).ownsRow base e size v n xs := by
  obtain ⟨h1, h2 | ⟨g, cap, cur, rfl, h3, h4, h5, h6, h7, h8⟩⟩ := h
  · exact ⟨h1, .inl h2⟩
  · exact ⟨h1, .inr ⟨g, cap, cur, rfl, h3, (Below.heap_setCell w p u g (by omega)).trans h4, h5, h6, h7, h8⟩⟩
theorem BinsAt.of_own {w : World} {base : Nat} {T : TypeId} {v : Value} {L : List (Int × Nat)} (h : w.ownsRow base T 2 v L.length (binCells L)) (hL : ∀ b ∈ L, -9223372036854775808 ≤ b.1 ∧ b.1 ≤ 9223372036854775807 ∧ b.2 < 18446744073709551616) (hl : L.length ≤ 4611686018427387904) : BinsAt w.heap.size w v L := by
  obtain ⟨h1, ⟨rfl, h2⟩ | ⟨g, cap, cur, rfl, h3, h4, h5, h6, h7, h8⟩⟩ := h
  · exact ⟨hL, hl, .inl ⟨none, rfl, List.eq_nil_of_length_eq_zero h2⟩⟩
  · refine ⟨hL, hl, .inr ⟨g, 0, cap, rfl, (Array.getElem?_eq_some_iff.1 h4).1, h5, fun i hi => ?_⟩⟩
    have r : RowAt w g T (binCells L) := ⟨cur, 0, 0, h4, .inl rfl, by rw [h1]; exact h8⟩
    obtain ⟨e1, e2⟩ := binCells_get L i hi
    obtain ⟨l1, e1⟩ := List.getElem?_eq_some_iff.1 e1
    obtain ⟨l2, e2⟩ := List.getElem?_eq_some_iff.1 e2
    rw [Nat.zero_add]
    exact ⟨by rw [← e1]; exact r.cell _ l1, by rw [← e2]; exact r.cell _ l2⟩
set_option maxRecDepth 100000 in
set_option maxHeartbeats 1000000 in
theorem end_any (bw bm : Nat) (f : Int) (M : List (Int × Nat)) (w : World) (hw : RowAt w bw 78 [.map (some bm), .int .i64 f]) (hC : CountsAt w bm M) (hR : Rising M) (hlen : M.length * 16 ≤ 140737488355328) (hM : ∀ b ∈ M, -9223372036854775808 ≤ b.1 ∧ b.1 ≤ 9223372036854775807 ∧ b.2 < 18446744073709551616) :
    Calls Try.prog 40 #[.pointer (some ⟨bw, 0, none⟩)] w fun e w' => ∃ v, e = .returned (HistV f v) ∧ BinsAt w'.heap.size w' v M ∧ (∀ k, v.ownBlock = some k → w.heap.size ≤ k) ∧ Below w.heap.size w w' := by
  obtain ⟨wc0, wc1, wf0, wf1, wl⟩ := hw.two
  go_enter Try.func40, Try.ntmps40
  go_wp2_with fail
  refine Calls.named (fun V hV => ?_)
  have hBV : Below w.heap.size w V := by rw [hV]; exact (by repeat (first | exact Below.refl _ _ | assumption | (refine Below.setCell ?_ (by (first | omega | (simp; done) | (simp; omega) | (simp at *; omega))) _) | (refine Below.alloc ?_ (by (first | omega | (simp; done) | (simp; omega) | (simp at *; omega))) _) | (refine Below.drew ?_) | (refine Gr.into _ ?_ (by (first | omega | (simp; done) | (simp; omega) | (simp at *; omega))))))
  have r : RowAt V (w.heap.size) 25 [.int .i64 0, .slice none 0 0] := by rw [hV]; exact (by repeat (first | assumption | exact RowAt.new_at _ _ _ _ (by (first | omega | (simp; done) | (simp; omega) | (simp at *; omega))) | (refine RowAt.alloc ?_ _) | (refine RowAt.gr ?_ _) | (refine RowAt.setOther ?_ _ _ (by (first | omega | (simp; done) | (simp; omega) | (simp at *; omega)))) | (refine RowAt.drew ?_)))
  have o : RowAt V (w.heap.size + 1) 25 [.int .i64 f, .slice none 0 0] := by rw [hV]; exact (by repeat (first | assumption | exact RowAt.new_at _ _ _ _ (by (first | omega | (simp; done) | (simp; omega) | (simp at *; omega))) | (refine RowAt.alloc ?_ _) | (refine RowAt.gr ?_ _) | (refine RowAt.setOther ?_ _ _ (by (first | omega | (simp; done) | (simp; omega) | (simp at *; omega)))) | (refine RowAt.drew ?_)))
  have q : RowAt V (bw) 78 [.map (some bm), .int .i64 f] := by rw [hV]; exact (by repeat (first | assumption | exact RowAt.new_at _ _ _ _ (by (first | omega | (simp; done) | (simp; omega) | (simp at *; omega))) | (refine RowAt.alloc ?_ _) | (refine RowAt.gr ?_ _) | (refine RowAt.setOther ?_ _ _ (by (first | omega | (simp; done) | (simp; omega) | (simp at *; omega)))) | (refine RowAt.drew ?_)))
  have hCV : CountsAt V bm M := by rw [hV]; exact World.ownsMap.alloc (World.ownsMap.alloc hC _) _
  clear hV
  obtain ⟨rc0, rc1, rf0, rf1, rl⟩ := r.two
  obtain ⟨oc0, oc1, of0, of1, ol⟩ := o.two
  obtain ⟨qc0, qc1, qf0, qf1, ql⟩ := q.two
  refine Calls.mono (keys_any (some bm) V) ?_
  rintro e w2 ⟨rfl, rfl⟩
  go_wp2_with fail
  refine Calls.mono (sorted_keys bm M V hCV hR (by omega)) ?_
  rintro e w2 ⟨sv, rfl, hown, hb2⟩
  rcases hown.2 with ⟨rfl, hz⟩ | ⟨sg, cap, cur, rfl, hbase, hgb, r1, r2, r3, r4⟩
  · obtain rfl : M = [] := List.eq_nil_of_length_eq_zero hz
    have hb3 : Below V.heap.size V w2 := ((Below.refl _ _).alloc (Nat.le_refl _) _).trans (hb2.mono (by omega))
    have r2' := r.below hb3 rl
    have o2 := o.below hb3 ol
    obtain ⟨o2c0, o2c1, o2f0, o2f1, o2l⟩ := o2.two
    obtain ⟨r2c0, r2c1, r2f0, r2f1, r2l⟩ := r2'.two
    have hBw2 : Below w.heap.size w w2 := hBV.trans (hb3.mono (by omega))
    go_wp2_with fail
    refine wp_loop_rounds 1 ?_
    rw [rounds_succ]
    go_wp2
    exact bodyPost_ret (v := HistV f (.slice none 0 0)) (by simp [results, Try.results40, go_sem, r2c0, r2c1, r2l]) rfl ⟨_, rfl, ⟨by simp, by simp, .inl ⟨none, rfl, rfl⟩⟩, fun k hk => by simp [Value.ownBlock] at hk, (by repeat (first | exact Below.refl _ _ | assumption | (refine Below.setCell ?_ (by (first | omega | (simp; done) | (simp; omega) | (simp at *; omega))) _) | (refine Below.alloc ?_ (by (first | omega | (simp; done) | (simp; omega) | (simp at *; omega))) _) | (refine Below.drew ?_) | (refine Gr.into _ ?_ (by (first | omega | (simp; done) | (simp; omega) | (simp at *; omega))))))⟩
  · have hkeys : RowAt w2 sg 3 (M.map fun p => .int .i64 p.1) := ⟨cur, 0, 0, hgb, .inl rfl, by rw [List.length_map]; simpa using r4⟩
    have hb3 : Below V.heap.size V w2 := ((Below.refl _ _).alloc (Nat.le_refl _) _).trans (hb2.mono (by omega))
    have hC2 : CountsAt w2 bm M := hCV.below hb3 hCV.lt
    have r2' := r.below hb3 rl
    have o2 := o.below hb3 ol
    have q2 := q.below hb3 ql
    clear hown
    obtain ⟨o2c0, o2c1, o2f0, o2f1, o2l⟩ := o2.two
    go_wp2_with fail
    have hVs : w.heap.size + 2 ≤ V.heap.size := by omega
    have hb3s := hb3.size
    have hsgl := hkeys.lt
    have hBw2 : Below w.heap.size w w2 := hBV.trans (hb3.mono (by omega))
    go_loopw [18] (fun i wr => ∃ (k : Nat) (v : Value), k ≤ M.length ∧ i = .int .i64 k ∧ wr.ownsRow w2.heap.size 65 2 v k (binCells (M.take k)) ∧ RowAt wr (w.heap.size + 1) 25 [.int .i64 f, v] ∧ RowAt wr w.heap.size 25 [.int .i64 0, .slice none 0 0] ∧
        RowAt wr sg 3 (M.map fun p => .int .i64 p.1) ∧ RowAt wr bw 78 [.map (some bm), .int .i64 f] ∧ CountsAt wr bm M ∧ Below w.heap.size w wr ∧ w2.heap.size ≤ wr.heap.size)
      (fun i _ => M.length - (intOf i).toNat)
    case atStart => exact ⟨0, _, Nat.zero_le _, rfl, World.ownsRow_nil _ _ _ _, o2, r2', hkeys, q2, hC2, hBw2, Nat.le_refl _⟩
    case round =>
      obtain ⟨k, v, hk, rfl, hown, ro, rr, rk, rq, hCr, hBr, hsr⟩ := hrel
      obtain ⟨oc0, oc1, of0, of1, ol'⟩ := ro.two
      obtain ⟨qc0, qc1, qf0, qf1, ql'⟩ := rq.two
      obtain ⟨rc0, rc1, rf0, rf1, rl'⟩ := rr.two
      by_cases hlk : k < M.length
      · have hkc := rk.cell k (by simpa using hlk)
        simp only [List.getElem_map] at hkc
        have hget := getM_rising hR k hlk
        have hin := hM _ (List.getElem_mem hlk)
        have htake : binCells (M.take (k + 1)) = binCells (M.take k) ++ [.int .i64 M[k].1, .int .u64 (M[k].2 : Nat)] := by
          rw [List.take_succ_eq_append_getElem hlk, binCells_snoc]
        have HT := Lib.hid htake
        clear htake
        have hlook : ∀ g : Gr wr, (Instr.lookup 76 (.map (some bm)) (.int .i64 M[k].1) false).run Try.prog g.world = .ok (.int .u64 (M[k].2 : Nat)) g.world := fun g => by
          have := (hCr.below g.below hCr.lt).look (wf_i64 ⟨hin.1, hin.2.1⟩)
          rwa [hget] at this
        have hskl := rk.lt
        generalize hL : M[k] = pn at *
        obtain ⟨p, n⟩ := pn
        go_wp2
        refine wp_region_gr_chainN 10 1 (by kernel_rfl) (by kernel_rfl) ?_
        simp only [List.take_succ_cons, List.take_zero, List.drop_succ_cons, List.drop_zero]
        repeat (go_big_quiet_step (first | fail))
        refine wpQuiet_nil ?_
        intro g
        have hgl := g.le
        refine wpChain_cons (fun K hK => ?_)
        go_wp2
        refine ⟨Gr.of (by repeat (first | exact Below.refl _ _ | assumption | (refine Below.setCell ?_ (by (first | omega | (simp; done) | (simp; omega) | (simp at *; omega))) _) | (refine Below.alloc ?_ (by (first | omega | (simp; done) | (simp; omega) | (simp at *; omega))) _) | (refine Below.drew ?_) | (refine Gr.into _ ?_ (by (first | omega | (simp; done) | (simp; omega) | (simp at *; omega)))))), ?_⟩
        have hgsz := g.le
        have rX : RowAt (g.world.alloc (.cells #[.int .i64 p, .int .u64 n] 65)) g.world.heap.size 65 [.int .i64 p, .int .u64 n] := RowAt.of_new _ _ _
        have hownX : (g.world.alloc (.cells #[.int .i64 p, .int .u64 n] 65)).ownsRow w2.heap.size 65 2 v k (binCells (M.take k)) := World.ownsRow.alloc (ownsRow_below hown g.below) _
        clear hlook
        refine wpChain_free (fun K2 hK2 => ?_)
        refine wp_append_own _ (.tmp 23) (.tmp 32) 23 rfl w2.heap.size 65 _ (.agg #[.int .i64 0, .int .u64 0]) 2 16 rfl rfl rfl rfl rfl rfl (by omega) v k (binCells (M.take k)) rfl hownX ⟨g.world.heap.size, 0, none⟩ 1 1 [.int .i64 p, .int .u64 n] rfl rfl
          (fun j u hj => by
            obtain ⟨hlt, rfl⟩ := List.getElem?_eq_some_iff.1 hj
            have e : (⟨g.world.heap.size, 0, none⟩ : Addr).add j = ⟨g.world.heap.size, j, none⟩ := by by_cases h0 : j = 0 <;> simp [Addr.add, h0]
            rw [e]; exact rX.cell j hlt)
          (fun u hu => by simp at hu; rcases hu with rfl | rfl <;> rfl) (by unfold maxLen; omega) (by omega) (by simp; omega) ?_
        intro v' Y hownY hgY _
        have keepY : ∀ b, b < w2.heap.size → Y.heap[b]? = wr.heap[b]? := fun b hb => by
          rw [hgY.block b (by simp; omega) (fun he => by have := (hownX.lt b he.symm).1; omega), Below.heap_alloc _ _ _ (by omega), g.below.block b (by omega)]
        have hYs := hgY.size
        simp only [World.size_alloc] at hYs
        have roY := ro.same (keepY _ (by omega))
        have rrY := rr.same (keepY _ (by omega))
        have rkY := rk.same (keepY _ hsgl)
        have rqY := rq.same (keepY _ (by have := hb3.size; omega))
        have hCY : CountsAt Y bm M := by
          obtain ⟨es, clock, h1, h2⟩ := hCr
          exact ⟨es, clock, (keepY bm hC2.lt).trans h1, h2⟩
        have hBY : Below w.heap.size w Y := ⟨by rw [hgY.os]; exact g.below.os.trans hBr.os, by rw [hgY.tape]; exact g.below.tape.trans hBr.tape, by rw [hgY.output]; exact g.below.output.trans hBr.output, by omega, fun b hb => by rw [keepY b (by omega), hBr.block b hb]⟩
        refine hK2 _ _ ?_
        have hownY' := hownY
        obtain ⟨-, ⟨-, hz⟩ | ⟨yg, yc, ycur, rfl, -⟩⟩ := hownY
        · omega
        obtain ⟨yc0, yc1, yf0, yf1, yl⟩ := roY.two
        refine wpChain_free (fun K3 hK3 => ?_)
        go_wp2
        refine wpChain_free (fun K4 hK4 => ?_)
        go_wp2
        refine wpChain_end ?_
        go_wp2
        go_roundw
        case rel => exact ⟨k + 1, _, by omega, by go_num, by rw [HT.out]; exact ownsRow_set hownY' _ _ (by show w.heap.size + 1 < _; omega), roY.set 1 _, rrY.setOther _ _ (by show w.heap.size ≠ w.heap.size + 1; omega), rkY.setOther _ _ (by show sg ≠ w.heap.size + 1; omega), rqY.setOther _ _ (by show bw ≠ w.heap.size + 1; omega), World.ownsMap.setCell hCY (by show bm ≠ w.heap.size + 1; have := hC.lt; omega) _, hBY.setCell (p := ⟨w.heap.size + 1, 1, none⟩) (by show _ ≤ w.heap.size + 1; omega) _, by simp; omega⟩
        case measure => simp [intOf]; omega
      · obtain rfl : k = M.length := by omega
        rw [List.take_length] at hown
        have hown' := hown
        rcases hown.2 with ⟨rfl, hz⟩ | ⟨vg, vc, vcur, rfl, v1, v2, v3, v4, v5, v6⟩
        · go_wp2
          exact bodyPost_ret (v := HistV f (.slice none 0 0)) (by simp [results, Try.results40, go_sem, rc0, rc1, rl']) rfl ⟨_, rfl, BinsAt.of_own (ownsRow_set (ownsRow_set hown' _ _ (by show w.heap.size < _; omega)) _ _ (by show w.heap.size < _; omega)) hM (by omega), fun k hk => by have := (hown'.lt k hk).1; omega, (by repeat (first | exact Below.refl _ _ | assumption | (refine Below.setCell ?_ (by (first | omega | (simp; done) | (simp; omega) | (simp at *; omega))) _) | (refine Below.alloc ?_ (by (first | omega | (simp; done) | (simp; omega) | (simp at *; omega))) _) | (refine Below.drew ?_) | (refine Gr.into _ ?_ (by (first | omega | (simp; done) | (simp; omega) | (simp at *; omega))))))⟩
        · go_wp2
          exact bodyPost_ret (v := HistV f (.slice (some ⟨vg, 0, none⟩) M.length vc)) (by simp [results, Try.results40, go_sem, rc0, rc1, rl']) rfl ⟨_, rfl, BinsAt.of_own (ownsRow_set (ownsRow_set hown' _ _ (by show w.heap.size < _; omega)) _ _ (by show w.heap.size < _; omega)) hM (by omega), fun k hk => by have := (hown'.lt k hk).1; omega, (by repeat (first | exact Below.refl _ _ | assumption | (refine Below.setCell ?_ (by (first | omega | (simp; done) | (simp; omega) | (simp at *; omega))) _) | (refine Below.alloc ?_ (by (first | omega | (simp; done) | (simp; omega) | (simp at *; omega))) _) | (refine Below.drew ?_) | (refine Gr.into _ ?_ (by (first | omega | (simp; done) | (simp; omega) | (simp at *; omega))))))⟩
end Go.Proofs.Ytnoemopaplopdaa
