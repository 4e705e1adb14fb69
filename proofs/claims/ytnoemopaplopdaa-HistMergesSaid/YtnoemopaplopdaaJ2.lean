/- The hist laws' of: a histogram of values. -/
import Derived.Test.YtnoemopaplopdaaJ1
import Derived.Test.YtnoemopaplopdaaHV
import Derived.Test.YtnoemopaplopdaaFree
namespace Go.Proofs.Ytnoemopaplopdaa
open Go.RowKit Go.Maps

/-- A slice of items (a number, how often) in memory below block B. -/
def ItemsAt (B : Nat) (w : World) (v : Value) (I : List (Nat × Nat)) : Prop :=
  (∀ b ∈ I, b.1 < 18446744073709551616 ∧ b.2 < 18446744073709551616) ∧ I.length ≤ 4611686018427387904 ∧ ∃ p cap, v = .slice p I.length cap ∧ I.length ≤ cap ∧
    (I ≠ [] → ∃ a off : Nat, p = some ⟨a, off, none⟩ ∧ a < B ∧ ∀ i (h : i < I.length), w.cell? ⟨a, off + i * 2, none⟩ = some (.int .u64 (I[i].1 : Nat)) ∧ w.cell? ⟨a, off + i * 2 + 1, none⟩ = some (.int .u64 (I[i].2 : Nat)))
theorem ItemsAt.below {B C : Nat} {w w' : World} {v : Value} {I : List (Nat × Nat)} (h : ItemsAt B w v I) (hb : Below C w w') (hC : B ≤ C) : ItemsAt B w' v I := by
  obtain ⟨h1, h2, p, cap, h3, h4, h5⟩ := h
  refine ⟨h1, h2, p, cap, h3, h4, fun hne => ?_⟩
  obtain ⟨a, off, e1, e2, e3⟩ := h5 hne
  exact ⟨a, off, e1, e2, fun i hi => by rw [hb.cell (by show a < C; omega), hb.cell (by show a < C; omega)]; exact e3 i hi⟩
theorem ItemsAt.mono {B C : Nat} {w : World} {v : Value} {I : List (Nat × Nat)} (h : ItemsAt B w v I) (hC : B ≤ C) : ItemsAt C w v I := by
  obtain ⟨h1, h2, p, cap, h3, h4, h5⟩ := h
  refine ⟨h1, h2, p, cap, h3, h4, fun hne => ?_⟩
  obtain ⟨a, off, e1, e2, e3⟩ := h5 hne
  exact ⟨a, off, e1, by omega, e3⟩
theorem ItemsAt.at_ {w W : World} {v : Value} {I : List (Nat × Nat)} (h : ItemsAt w.heap.size w v I) (hb : Below w.heap.size w W) : ItemsAt W.heap.size W v I :=
  (h.below hb (Nat.le_refl _)).mono hb.size
def itemB (f : Nat) (x : Nat × Nat) : Int × Nat := ((bucketN f x.1 : Nat), x.2)
def ofL (f : Nat) (I : List (Nat × Nat)) : List (Int × Nat) := (I.map (itemB f)).foldl addB []
theorem ofL_canon {f : Nat} (hf : f ≤ 3) {I : List (Nat × Nat)} (h : ∀ x ∈ I, x.1 < 2 ^ 64) : Canon f (ofL f I) :=
  Canon.addBs (Canon.nil (by simp [fineB]; omega)) fun b hb => by
    obtain ⟨x, hx, rfl⟩ := List.mem_map.1 hb
    exact bucketN_isSome hf (h x hx)
theorem ofL_length (f : Nat) (I : List (Nat × Nat)) : (ofL f I).length ≤ I.length := by
  have := addBs_length (I.map (itemB f)) []
  simpa [ofL] using this
theorem ofL_snoc {f : Nat} (hf : f ≤ 3) {I : List (Nat × Nat)} (h : ∀ x ∈ I, x.1 < 2 ^ 64) (x : Nat × Nat) : addB ((ofL f I).foldl addB []) (bucketB f x.1, x.2) = ofL f (I ++ [x]) := by
  have e : bucketB f x.1 = bucketN f x.1 := by unfold bucketB; rw [if_pos (by simp [fineB]; omega), Int.toNat_natCast]
  rw [(ofL_canon hf h).norm, e]
  unfold ofL
  rw [List.map_append, List.foldl_append]
  rfl
theorem of_stored {w w2 X : World} {b f : Nat} {u u0 : Value} {L : List (Int × Nat)} (hX : X = (((w2.setCell ⟨b, 0, none⟩ (.int .i64 f)).setCell ⟨b, 1, none⟩ u).setCell ⟨w.heap.size + 1, 0, none⟩ (.int .i64 f)).setCell ⟨w.heap.size + 1, 1, none⟩ u)
    (hv : BinsAt w2.heap.size w2 u L) (hfr : ∀ j, u.ownBlock = some j → w.heap.size + 2 ≤ j ∧ j ≠ b) (rr : RowAt w2 w.heap.size 25 [.int .i64 0, .slice none 0 0]) (rx : RowAt w2 (w.heap.size + 1) 25 [.int .i64 f, u0]) (hB : Below w.heap.size w w2) (hs : w.heap.size + 2 ≤ w2.heap.size) (hb : w.heap.size + 2 ≤ b) :
    RowAt X w.heap.size 25 [.int .i64 0, .slice none 0 0] ∧ RowAt X (w.heap.size + 1) 25 [.int .i64 f, u] ∧ BinsAt X.heap.size X u L ∧ Below w.heap.size w X ∧ w.heap.size + 2 ≤ X.heap.size := by
  subst hX
  refine ⟨(((rr.setOther _ _ ?_).setOther _ _ ?_).setOther _ _ ?_).setOther _ _ ?_, (((rx.setOther _ _ ?_).setOther _ _ ?_).set 0 _).set 1 _, ((((hv.setOther _ _ ?_).setOther _ _ ?_).setOther _ _ ?_).setOther _ _ ?_).mono (by simp), (((hB.setCell ?_ _).setCell ?_ _).setCell ?_ _).setCell ?_ _, by simpa using hs⟩
  all_goals
    try intro j hj
    try have := hfr j hj
    dsimp only
    omega
theorem of_stored' {w w2 X : World} {f : Nat} {u u0 : Value} {o : Obj} {L : List (Int × Nat)} (hX : X = ((w2.setCell ⟨w.heap.size + 1, 0, none⟩ (.int .i64 f)).setCell ⟨w.heap.size + 1, 1, none⟩ u).alloc o)
    (hv : BinsAt w2.heap.size w2 u L) (hfr : ∀ j, u.ownBlock = some j → w.heap.size + 2 ≤ j) (rr : RowAt w2 w.heap.size 25 [.int .i64 0, .slice none 0 0]) (rx : RowAt w2 (w.heap.size + 1) 25 [.int .i64 f, u0]) (hB : Below w.heap.size w w2) (hs : w.heap.size + 2 ≤ w2.heap.size) :
    RowAt X w.heap.size 25 [.int .i64 0, .slice none 0 0] ∧ RowAt X (w.heap.size + 1) 25 [.int .i64 f, u] ∧ BinsAt X.heap.size X u L ∧ Below w.heap.size w X ∧ w.heap.size + 2 ≤ X.heap.size := by
  subst hX
  refine ⟨((rr.setOther _ _ ?_).setOther _ _ ?_).alloc _, ((rx.set 0 _).set 1 _).alloc _, BinsAt.at_ (((hv.setOther _ _ ?_).setOther _ _ ?_).mono (by simp)) ((Below.refl _ _).alloc (Nat.le_refl _) _), ((hB.setCell ?_ _).setCell ?_ _).alloc (by simp; omega) _, by simp; omega⟩
  all_goals
    try intro j hj
    try have := hfr j hj
    dsimp only
    omega
set_option maxRecDepth 100000 in
set_option maxHeartbeats 2000000 in
theorem of_any (f : Nat) (v : Value) (I : List (Nat × Nat)) (w : World) (hf : f ≤ 3) (hI : ItemsAt w.heap.size w v I) (hlen : I.length ≤ 1000000000000) :
    Calls Try.prog 27 #[.int .i64 f, v] w fun e w' => ∃ v', e = histRes f v' 0 ∧ BinsAt w'.heap.size w' v' (ofL f I) ∧ Below w.heap.size w w' := by
  obtain ⟨h1, h2, p, cap, rfl, h4, h5⟩ := hI
  go_enter Try.func27, Try.ntmps27
  go_wp2
  refine wp_named (fun W hW => ?_)
  have hBW : Below w.heap.size w W := by rw [hW]; exact (by repeat (first | exact Below.refl _ _ | assumption | (refine Below.setCell ?_ (by (first | omega | (simp; done) | (simp; omega) | (simp at *; omega))) _) | (refine Below.alloc ?_ (by (first | omega | (simp; done) | (simp; omega) | (simp at *; omega))) _) | (refine Below.drew ?_) | (refine Gr.into _ ?_ (by (first | omega | (simp; done) | (simp; omega) | (simp at *; omega))))))
  have r : RowAt W (w.heap.size) 25 [.int .i64 0, .slice none 0 0] := by rw [hW]; exact (by repeat (first | assumption | exact RowAt.new_at _ _ _ _ (by (first | omega | (simp; done) | (simp; omega) | (simp at *; omega))) | (refine RowAt.alloc ?_ _) | (refine RowAt.gr ?_ _) | (refine RowAt.setOther ?_ _ _ (by (first | omega | (simp; done) | (simp; omega) | (simp at *; omega)))) | (refine RowAt.drew ?_)))
  have x : RowAt W (w.heap.size + 1) 25 [.int .i64 f, .slice none 0 0] := by rw [hW]; exact (by repeat (first | assumption | exact RowAt.new_at _ _ _ _ (by (first | omega | (simp; done) | (simp; omega) | (simp at *; omega))) | (refine RowAt.alloc ?_ _) | (refine RowAt.gr ?_ _) | (refine RowAt.setOther ?_ _ _ (by (first | omega | (simp; done) | (simp; omega) | (simp at *; omega)))) | (refine RowAt.drew ?_)))
  clear hW
  obtain ⟨rc0, rc1, rf0, rf1, rl⟩ := r.two
  obtain ⟨xc0, xc1, xf0, xf1, xl⟩ := x.two
  have hWs : w.heap.size + 2 ≤ W.heap.size := by omega
  go_loopw [7] (fun i wr => ∃ (k : Nat) (u : Value), k ≤ I.length ∧ i = .int .i64 k ∧ RowAt wr w.heap.size 25 [.int .i64 0, .slice none 0 0] ∧ RowAt wr (w.heap.size + 1) 25 [.int .i64 f, u] ∧ BinsAt wr.heap.size wr u (ofL f (I.take k)) ∧ (∀ j, u.ownBlock = some j → w.heap.size + 2 ≤ j) ∧ Below w.heap.size w wr ∧ w.heap.size + 2 ≤ wr.heap.size)
    (fun i _ => I.length - (intOf i).toNat)
  case atStart => exact ⟨0, _, by omega, rfl, r, x, by simpa [ofL] using binsNil _ _, fun j hj => by simp [Value.ownBlock] at hj, hBW, hWs⟩
  case round =>
    obtain ⟨k, u, hk, rfl, rr, rx, hu, hub, hB, hs⟩ := hrel
    obtain ⟨up, ucap, hueq, -⟩ := hu.form
    subst hueq
    obtain ⟨rc0, rc1, rf0, rf1, rl⟩ := rr.two
    obtain ⟨xc0, xc1, xf0, xf1, xl⟩ := rx.two
    by_cases hlk : k < I.length
    · obtain ⟨a, off, rfl, ha, hc⟩ := h5 (by rintro rfl; simp at hlk)
      obtain ⟨hc0, hc1⟩ := hc k hlk
      rw [← hB.cell (p := ⟨a, off + k * 2, none⟩) ha] at hc0
      rw [← hB.cell (p := ⟨a, off + k * 2 + 1, none⟩) ha] at hc1
      have hin := h1 _ (List.getElem_mem hlk)
      have hmem : ∀ x ∈ I.take k, x.1 < 2 ^ 64 := fun x hx => (h1 x (List.mem_of_mem_take hx)).1
      have hcan := ofL_canon (f := f) hf hmem
      have hlen2 := ofL_length f (I.take k)
      rw [List.length_take_of_le hk] at hlen2
      have hadd := fun W hb => hAdd_fresh f I[k].1 I[k].2 _ (ofL f (I.take k)) W (hu.at_ hb) hcan.right hin.1 hin.2 (by omega)
      rw [ofL_snoc hf hmem, ← List.take_succ_eq_append_getElem hlk] at hadd
      have hal : a < wr.heap.size := Nat.lt_of_lt_of_le ha hB.size
      have hBs := hB.size
      have HA := Lib.hid hadd
      clear hadd hc h5
      generalize I[k] = y at *
      obtain ⟨y1, y2⟩ := y
      generalize (ofL f (I.take k)).length = ul at *
      go_wp2
      refine wp_region_gr_free 11 7 [12, 13, 14, 16, 17] (by kernel_rfl) (by kernel_rfl) ?_
      simp only [List.take_succ_cons, List.take_zero]
      repeat (go_big_quiet_step (first | fail))
      refine wpQuiet_nil ?_
      intro g
      have hgl := g.le
      refine wpAnyC_two 11 15 rfl rfl rfl rfl (by kernel_rfl) (fun K hK => ?_) (fun K hK => ?_)
      · go_wp2_with fail
        refine Calls.mono (HA.out _ g.below) ?_
        rintro e w2 ⟨v', rfl, hv', hb, hfr⟩
        obtain ⟨vp, vcap, hveq, -⟩ := hv'.form
        subst hveq
        have hbw : Below wr.heap.size wr w2 := g.below.trans (hb.mono hgl)
        have rx2 := rx.below hbw xl
        have rr2 := rr.below hbw rl
        have hB2 : Below w.heap.size w w2 := hB.trans (hbw.mono hBs)
        have hbs := hbw.size
        obtain ⟨x2c0, x2c1, x2f0, x2f1, x2l⟩ := rx2.two
        obtain ⟨r2c0, r2c1, r2f0, r2f1, r2l⟩ := rr2.two
        clear HA
        generalize hvl : (ofL f (I.take (k + 1))).length = vl at *
        go_wp2_with fail
        refine hK _ _ (.inr (Gr.of hbw)) ?_
        refine wpAnyC_pureL 12 (by kernel_rfl) ?_
        simp only [List.drop_succ_cons, List.drop_zero, List.take_succ_cons, List.take_zero]
        go_big_quiet_step (first | fail)
        refine wpQuiet_nil ?_
        refine wpAnyC_pureL 13 (by kernel_rfl) ?_
        simp only [List.drop_succ_cons, List.drop_zero, List.take_succ_cons, List.take_zero]
        go_big_quiet_step (first | fail)
        refine wpQuiet_nil ?_
        refine wpAnyC_pureL 14 (by kernel_rfl) ?_
        simp only [List.drop_succ_cons, List.drop_zero, List.take_succ_cons, List.take_zero]
        go_big_quiet_step (first | fail)
        refine wpQuiet_nil ?_
        refine wpAnyC_one 15 rfl rfl (by kernel_rfl) (fun K hK => ?_)
        go_wp2
        refine hK _ _ (.inr (Gr.of (hbw.alloc hbs _))) ?_
        refine wpAnyC_one 16 rfl rfl (by kernel_rfl) (fun K hK => ?_)
        go_wp2
        refine hK _ _ (.inl rfl) ?_
        refine wpAnyC_one 17 rfl rfl (by kernel_rfl) (fun K hK => ?_)
        go_wp2
        refine hK _ _ (.inl rfl) ?_
        refine wpAnyC_end (by kernel_rfl) ?_
        go_wp2
        go_roundw
        case rel =>
          obtain ⟨e1, e2, e3, e4, e5⟩ := of_stored' rfl hv' (fun j hj => by have := hfr j hj; omega) rr2 rx2 hB2 (by omega)
          exact ⟨k + 1, _, by omega, by go_num, e1, e2, e3, fun j hj => by have := hfr j hj; omega, e4, e5⟩
        case measure => simp [intOf]; omega
      · go_wp2
        refine hK _ _ (.inr (Gr.of (g.below.alloc hgl _))) ?_
        refine wpAnyC_one 11 rfl rfl (by kernel_rfl) (fun K hK => ?_)
        go_wp2_with fail
        refine Calls.mono (HA.out _ (g.below.alloc hgl _)) ?_
        rintro e w2 ⟨v', rfl, hv', hb, hfr⟩
        obtain ⟨vp, vcap, hveq, -⟩ := hv'.form
        subst hveq
        have nx := (RowAt.new_at g.world #[.int .i64 0, .slice none 0 0] 25 g.world.heap.size rfl).below hb (by simp)
        have hbw : Below wr.heap.size wr w2 := (g.below.alloc hgl _).trans (hb.mono (by simp; omega))
        have rx2 := rx.below hbw xl
        have rr2 := rr.below hbw rl
        have hB2 : Below w.heap.size w w2 := hB.trans (hbw.mono hBs)
        have hbs := hbw.size
        have hbs2 := hb.size
        simp only [World.size_alloc] at hbs2 hfr
        obtain ⟨x2c0, x2c1, x2f0, x2f1, x2l⟩ := rx2.two
        obtain ⟨r2c0, r2c1, r2f0, r2f1, r2l⟩ := rr2.two
        obtain ⟨nxc0, nxc1, nxf0, nxf1, nxl⟩ := nx.two
        clear HA
        generalize hvl : (ofL f (I.take (k + 1))).length = vl at *
        go_wp2_with fail
        refine hK _ _ (.inr (Gr.of hbw)) ?_
        refine wpAnyC_pureL 12 (by kernel_rfl) ?_
        simp only [List.drop_succ_cons, List.drop_zero, List.take_succ_cons, List.take_zero]
        go_big_quiet_step (first | fail)
        refine wpQuiet_nil ?_
        refine wpAnyC_pureL 13 (by kernel_rfl) ?_
        simp only [List.drop_succ_cons, List.drop_zero, List.take_succ_cons, List.take_zero]
        go_big_quiet_step (first | fail)
        refine wpQuiet_nil ?_
        refine wpAnyC_pureL 14 (by kernel_rfl) ?_
        simp only [List.drop_succ_cons, List.drop_zero, List.take_succ_cons, List.take_zero]
        go_big_quiet_step (first | fail)
        refine wpQuiet_nil ?_
        refine wpAnyC_one 16 rfl rfl (by kernel_rfl) (fun K hK => ?_)
        go_wp2
        refine hK _ _ (.inl rfl) ?_
        refine wpAnyC_one 17 rfl rfl (by kernel_rfl) (fun K hK => ?_)
        go_wp2
        refine hK _ _ (.inl rfl) ?_
        refine wpAnyC_end (by kernel_rfl) ?_
        go_wp2
        go_roundw
        case rel =>
          obtain ⟨e1, e2, e3, e4, e5⟩ := of_stored (b := g.world.heap.size) rfl hv' (fun j hj => by have := hfr j hj; omega) rr2 rx2 hB2 (by omega) (by omega)
          exact ⟨k + 1, _, by omega, by go_num, e1, e2, e3, fun j hj => by have := hfr j hj; omega, e4, e5⟩
        case measure => simp [intOf]; omega
    · obtain rfl : k = I.length := by omega
      rw [List.take_length] at hu hub
      have hul := ofL_length f I
      go_wp2
      refine bodyPost_ret (v := .tuple #[HistV f (.slice up (ofL f I).length ucap), .int .i64 0]) (by simp [results, Try.results27, go_sem, rc0, rc1, rl]) rfl ?_
      refine ⟨_, rfl, ((hu.setOther _ _ ?_).setOther _ _ ?_).mono (by simp), (by repeat (first | exact Below.refl _ _ | assumption | (refine Below.setCell ?_ (by (first | omega | (simp; done) | (simp; omega) | (simp at *; omega))) _) | (refine Below.alloc ?_ (by (first | omega | (simp; done) | (simp; omega) | (simp at *; omega))) _) | (refine Below.drew ?_) | (refine Gr.into _ ?_ (by (first | omega | (simp; done) | (simp; omega) | (simp at *; omega))))))⟩
      all_goals
        intro j hj
        have := hub j hj
        dsimp only
        omega
end Go.Proofs.Ytnoemopaplopdaa
