/- The walk of the law HistRanks. -/
import Derived.Test.YtnoemopaplopdaaN4
import Derived.Test.YtnoemopaplopdaaJ4
namespace Go.Proofs.Ytnoemopaplopdaa
open Go.RowKit Go.Maps

theorem stored1 {K : Nat} {w w2 X : World} {b bx f : Nat} {u u0 : Value} {L : List (Int × Nat)} (hX : X = (((w2.setCell ⟨b, 0, none⟩ (.int .i64 f)).setCell ⟨b, 1, none⟩ u).setCell ⟨bx, 0, none⟩ (.int .i64 f)).setCell ⟨bx, 1, none⟩ u)
    (hv : BinsAt w2.heap.size w2 u L) (hfr : ∀ j, u.ownBlock = some j → bx < j ∧ j ≠ b) (rx : RowAt w2 bx 25 [.int .i64 f, u0]) (hB : Below K w w2) (hK : K ≤ bx) (hb : bx < b) :
    RowAt X bx 25 [.int .i64 f, u] ∧ BinsAt X.heap.size X u L ∧ Below K w X ∧ X.heap.size = w2.heap.size := by
  subst hX
  refine ⟨(((rx.setOther _ _ ?_).setOther _ _ ?_).set 0 _).set 1 _, ((((hv.setOther _ _ ?_).setOther _ _ ?_).setOther _ _ ?_).setOther _ _ ?_).mono (by simp), (((hB.setCell ?_ _).setCell ?_ _).setCell ?_ _).setCell ?_ _, by simp⟩
  all_goals
    try intro j hj
    try have := hfr j hj
    dsimp only
    omega
theorem stored1' {K : Nat} {w w2 X : World} {bx f : Nat} {u u0 : Value} {o : Obj} {L : List (Int × Nat)} (hX : X = ((w2.setCell ⟨bx, 0, none⟩ (.int .i64 f)).setCell ⟨bx, 1, none⟩ u).alloc o)
    (hv : BinsAt w2.heap.size w2 u L) (hfr : ∀ j, u.ownBlock = some j → bx < j) (rx : RowAt w2 bx 25 [.int .i64 f, u0]) (hB : Below K w w2) (hK : K ≤ bx) :
    RowAt X bx 25 [.int .i64 f, u] ∧ BinsAt X.heap.size X u L ∧ Below K w X ∧ X.heap.size = w2.heap.size + 1 := by
  subst hX
  have hl := rx.lt
  refine ⟨((rx.set 0 _).set 1 _).alloc _, BinsAt.at_ (((hv.setOther _ _ ?_).setOther _ _ ?_).mono (by simp)) ((Below.refl _ _).alloc (Nat.le_refl _) _), ((hB.setCell ?_ _).setCell ?_ _).alloc (by simp; omega) _, by simp⟩
  all_goals
    try intro j hj
    try have := hfr j hj
    dsimp only
    omega
set_option maxRecDepth 100000 in
theorem ranks_law_no (f pl : Int) (l : Value) (v : Nat) (w : World) (h : fineB f = false) :
    Calls Try.prog 5 #[.int .i64 f, l, .int .u64 v, .int .i64 pl] w fun e w' => e = .returned (.bool true) ∧ Below w.heap.size w w' := by
  have hd := fine_no h
  rcases Classical.em (f < 0) with h1 | h1
  all_goals
    go_enter Try.func5, Try.ntmps5
    go_wp2_with fail
    with_reducible refine Calls.mono (Calls.gr0 (shown_any _)) ?_
    rintro e w' ⟨rfl, g, rfl⟩
    have hgl := g.le
    try simp only [World.size_alloc] at hgl
    try simp only [World.size_setCell] at hgl
    go_wp2_with fail
    go_ret
    exact ⟨rfl, (by repeat (first | exact Below.refl _ _ | assumption | (refine Below.setCell ?_ (by (first | omega | (simp; done) | (simp; omega) | (simp at *; omega))) _) | (refine Below.alloc ?_ (by (first | omega | (simp; done) | (simp; omega) | (simp at *; omega))) _) | (refine Below.drew ?_) | (refine Gr.into _ ?_ (by (first | omega | (simp; done) | (simp; omega) | (simp at *; omega))))))⟩
theorem count_snoc (P : Nat → Bool) (Z : List Nat) (k : Nat) (h : k < Z.length) : (Z.take (k + 1)).countP P = (Z.take k).countP P + if P Z[k] then 1 else 0 := by
  rw [List.take_succ_eq_append_getElem h, List.countP_append]
  simp
theorem onesI_snoc (Z : List Nat) (k : Nat) (h : k < Z.length) : onesI (Z.take (k + 1)) = onesI (Z.take k) ++ [(Z[k], 1)] := by
  unfold onesI
  rw [List.take_succ_eq_append_getElem h, List.map_append]
  rfl
theorem bndRes_some (a b : Nat) : bndRes (some (a, b)) = .returned (.tuple #[.int .u64 a, .int .u64 b, .bool true]) := rfl
set_option maxRecDepth 100000 in
set_option maxHeartbeats 2000000 in
theorem ranks_law_yes (f q : Nat) (pl : Int) (hq : max 0 pl = (q : Nat)) (hq63 : q ≤ 9223372036854775807) (p : Option Addr) (n cap : Nat) (Z : List Nat) (v : Nat) (w : World) (h : f ≤ 3) (hv : v < 18446744073709551616) (hn : n ≤ 9223372036854775807) (hZl : Z.length = min n 100) (hZ : ∀ z ∈ Z, z < 18446744073709551616)
    (hc : Z ≠ [] → ∃ a off, p = some ⟨a, off, none⟩ ∧ a < w.heap.size ∧ ∀ i (h : i < Z.length), w.cell? ⟨a, off + i, none⟩ = some (.int .u64 (Z[i] : Nat))) :
    Calls Try.prog 5 #[.int .i64 f, .slice p n cap, .int .u64 v, .int .i64 pl] w fun e w' => e = .returned (.bool true) ∧ Below w.heap.size w w' := by
  have hf : fineB f = true := by simp [fineB]; omega
  have hfi : (f : Int) ≤ 3 := by omega
  obtain ⟨lo, hi, hbn, b1, b2, b3, b4, b5, b6⟩ := bounds_bucket (f := f) hv h
  have hKb := bucketN_bd (f := f) hv h
  have kbd : ∀ W, Calls Try.prog 13 #[.int .i64 f, .int .i64 (bucketN f v)] W fun e w' => e = .returned (.tuple #[.int .u64 lo, .int .u64 hi, .bool true]) ∧ Below W.heap.size W w' := fun W => by
    have := bounds_any f (bucketN f v) W
    unfold boundsB at this
    rw [if_pos (by simp [hf]; exact_mod_cast hKb), Int.toNat_natCast, Int.toNat_natCast, hbn] at this
    exact this
  have kbk : ∀ W, Calls Try.prog 17 #[.int .i64 f, .int .u64 v] W fun e w' => e = .returned (.int .i64 (bucketN f v)) ∧ Below W.heap.size W w' := fun W => by
    have := bucket_any f v W hv
    rwa [bucketB_fine h] at this
  have hhigh := high_ones h hZ hv hbn
  have hlow := low_ones (f := f) (v := v) (Z := Z) hv
  have hrank := rank_ones h hZ (by omega) v
  have htot := total_ones h hZ (by omega)
  have hsel0 := select_ones h hZ (by omega) q
  generalize bucketN f v = bk at *
  have hsel := Lib.hid hsel0
  clear hsel0
  have HZ := Lib.hid hZl
  have hZ100 : Z.length ≤ 100 := by omega
  clear hZl
  go_enter Try.func5, Try.ntmps5
  go_wp2_with fail
  with_reducible refine Calls.mono (Calls.gr0 (shown_any _)) ?_
  rintro e w' ⟨rfl, g, rfl⟩
  have hgl := g.le
  try simp only [World.size_alloc] at hgl
  try simp only [World.size_setCell] at hgl
  go_wp2_with fail
  refine Calls.named (fun V hV => ?_)
  have hBV : Below w.heap.size w V := by rw [hV]; exact (by repeat (first | exact Below.refl _ _ | assumption | (refine Below.setCell ?_ (by (first | omega | (simp; done) | (simp; omega) | (simp at *; omega))) _) | (refine Below.alloc ?_ (by (first | omega | (simp; done) | (simp; omega) | (simp at *; omega))) _) | (refine Below.drew ?_) | (refine Gr.into _ ?_ (by (first | omega | (simp; done) | (simp; omega) | (simp at *; omega))))))
  have x : RowAt V (g.world.heap.size) 25 [.int .i64 f, .slice none 0 0] := by rw [hV]; exact (by repeat (first | assumption | exact RowAt.new_at _ _ _ _ (by (first | omega | (simp; done) | (simp; omega) | (simp at *; omega))) | (refine RowAt.alloc ?_ _) | (refine RowAt.gr ?_ _) | (refine RowAt.setOther ?_ _ _ (by (first | omega | (simp; done) | (simp; omega) | (simp at *; omega)))) | (refine RowAt.drew ?_)))
  clear hV
  obtain ⟨xc0, xc1, xf0, xf1, xl⟩ := x.two
  generalize hgx : g.world.heap.size = bx at *
  have hbx : w.heap.size ≤ bx := by omega
  clear hgx g
  have hVs := hBV.size
  with_reducible refine Calls.mono (Calls.gr0 (kbk _)) ?_
  rintro e w' ⟨rfl, g, rfl⟩
  have hgl := g.le
  try simp only [World.size_alloc] at hgl
  try simp only [World.size_setCell] at hgl
  go_wp2_with fail
  with_reducible refine Calls.mono (Calls.gr (kbd _)) ?_
  rintro e w' ⟨rfl, g, rfl⟩
  have hgl := g.le
  try simp only [World.size_alloc] at hgl
  try simp only [World.size_setCell] at hgl
  go_wp2_with fail
  refine wp_named (fun U hU => ?_)
  have hBU : Below V.heap.size V U := by rw [hU]; exact (by repeat (first | exact Below.refl _ _ | assumption | (refine Below.setCell ?_ (by (first | omega | (simp; done) | (simp; omega) | (simp at *; omega))) _) | (refine Below.alloc ?_ (by (first | omega | (simp; done) | (simp; omega) | (simp at *; omega))) _) | (refine Below.drew ?_) | (refine Gr.into _ ?_ (by (first | omega | (simp; done) | (simp; omega) | (simp at *; omega))))))
  have x2 : RowAt U (bx) 25 [.int .i64 f, .slice none 0 0] := by rw [hU]; exact (by repeat (first | assumption | exact RowAt.new_at _ _ _ _ (by (first | omega | (simp; done) | (simp; omega) | (simp at *; omega))) | (refine RowAt.alloc ?_ _) | (refine RowAt.gr ?_ _) | (refine RowAt.setOther ?_ _ _ (by (first | omega | (simp; done) | (simp; omega) | (simp at *; omega)))) | (refine RowAt.drew ?_)))
  clear hU
  obtain ⟨x2c0, x2c1, x2f0, x2f1, x2l⟩ := x2.two
  clear hgl g
  have hBU0 : Below w.heap.size w U := hBV.trans (hBU.mono hVs)
  have hUs := hBU0.size
  go_loopw [11, 12, 16] (fun lw hg i wr => ∃ (k : Nat) (u : Value), k ≤ Z.length ∧ i = .int .i64 k ∧ lw = .int .u64 ((Z.take k).countP fun y => decide (y ≤ v) : Nat) ∧ hg = .int .u64 ((Z.take k).countP fun y => decide (y ≤ hi) : Nat) ∧ RowAt wr bx 25 [.int .i64 f, u] ∧ BinsAt wr.heap.size wr u (ofL f (onesI (Z.take k))) ∧ (∀ j, u.ownBlock = some j → bx < j) ∧ Below w.heap.size w wr)
    (fun _ _ i _ => Z.length - (intOf i).toNat)
  case atStart => exact ⟨0, _, by omega, rfl, by simp, by simp, x2, by simpa [ofL, onesI] using binsNil _ _, fun j hj => by simp [Value.ownBlock] at hj, hBU0⟩
  case round =>
    obtain ⟨k, u, hk, rfl, rfl, rfl, rx, hu, hub, hB⟩ := hrel
    obtain ⟨up, ucap, hueq, -⟩ := hu.form
    subst hueq
    obtain ⟨xc0, xc1, xf0, xf1, xl⟩ := rx.two
    have hBs := hB.size
    by_cases hlk : k < Z.length
    · obtain ⟨a, off, rfl, ha, hc⟩ := hc (by rintro rfl; simp at hlk)
      have hc0 := hc k hlk
      rw [← hB.cell (p := ⟨a, off + k, none⟩) ha] at hc0
      have hin := hZ _ (List.getElem_mem hlk)
      have hkn : (k : Int) < n := by have := HZ.out; omega
      have hk100 : (k : Int) < 100 := by omega
      have hal : a < wr.heap.size := by omega
      have hmem : ∀ x ∈ onesI (Z.take k), x.1 < 2 ^ 64 := ones_lt fun z hz => hZ z (List.mem_of_mem_take hz)
      have hcan := ofL_canon (f := f) h hmem
      have hlen2 := ofL_length f (onesI (Z.take k))
      have hlen3 : (onesI (Z.take k)).length = k := by simp [onesI]; omega
      have hadd := fun W hb => hAdd_fresh f Z[k] 1 _ (ofL f (onesI (Z.take k))) W (hu.at_ hb) hcan.right hin (by decide) (by omega)
      rw [ofL_snoc h hmem (Z[k], 1), ← onesI_snoc Z k hlk] at hadd
      have hsl := count_snoc (fun y => decide (y ≤ v)) Z k hlk
      have hsh := count_snoc (fun y => decide (y ≤ hi)) Z k hlk
      have hcl := List.countP_le_length (p := fun y => decide (y ≤ v)) (l := Z.take k)
      have hch := List.countP_le_length (p := fun y => decide (y ≤ hi)) (l := Z.take k)
      have htl : (Z.take k).length = k := by simp; omega
      have HA := Lib.hid hadd
      have HL := Lib.hid hsl
      have HH := Lib.hid hsh
      clear hadd hsl hsh hc hhigh hlow hrank htot hsel kbd kbk
      generalize Z[k] = y at *
      generalize (Z.take k).countP (fun y => decide (y ≤ v)) = cl at *
      generalize (Z.take k).countP (fun y => decide (y ≤ hi)) = ch at *
      generalize (ofL f (onesI (Z.take k))).length = ul at *
      go_wp2
      refine wp_region_gr_free 5 7 [6, 7, 8, 10, 11] (by kernel_rfl) (by kernel_rfl) ?_
      simp only [List.take_succ_cons, List.take_zero]
      repeat (go_big_quiet_step (first | fail))
      refine wpQuiet_nil ?_
      intro g
      have hgl := g.le
      refine wpAnyC_two 5 9 rfl rfl rfl rfl (by kernel_rfl) (fun K hK => ?_) (fun K hK => ?_)
      · go_wp2_with fail
        refine Calls.mono (HA.out _ g.below) ?_
        rintro e w2 ⟨v', rfl, hv', hb, hfr⟩
        obtain ⟨vp, vcap, hveq, -⟩ := hv'.form
        subst hveq
        have hbw : Below wr.heap.size wr w2 := g.below.trans (hb.mono hgl)
        have rx2 := rx.below hbw xl
        have hB2 : Below w.heap.size w w2 := hB.trans (hbw.mono hBs)
        have hbs := hbw.size
        have hc2 : w2.cell? ⟨a, off + k, none⟩ = some (.int .u64 y) := (hbw.cell (p := ⟨a, off + k, none⟩) hal).trans hc0
        have hal2 : a < w2.heap.size := by omega
        have hab : a < bx := by omega
        obtain ⟨x2c0, x2c1, x2f0, x2f1, x2l⟩ := rx2.two
        clear HA
        generalize hvl : (ofL f (onesI (Z.take (k + 1)))).length = vl at *
        go_wp2_with fail
        refine hK _ _ (.inr (Gr.of hbw)) ?_
        refine wpAnyC_pureL 6 (by kernel_rfl) ?_
        simp only [List.drop_succ_cons, List.drop_zero, List.take_succ_cons, List.take_zero]
        go_big_quiet_step (first | fail)
        refine wpQuiet_nil ?_
        refine wpAnyC_pureL 7 (by kernel_rfl) ?_
        simp only [List.drop_succ_cons, List.drop_zero, List.take_succ_cons, List.take_zero]
        go_big_quiet_step (first | fail)
        refine wpQuiet_nil ?_
        refine wpAnyC_pureL 8 (by kernel_rfl) ?_
        simp only [List.drop_succ_cons, List.drop_zero, List.take_succ_cons, List.take_zero]
        go_big_quiet_step (first | fail)
        refine wpQuiet_nil ?_
        refine wpAnyC_one 9 rfl rfl (by kernel_rfl) (fun K hK => ?_)
        go_wp2
        refine hK _ _ (.inr (Gr.of (hbw.alloc hbs _))) ?_
        refine wpAnyC_one 10 rfl rfl (by kernel_rfl) (fun K hK => ?_)
        go_wp2
        refine hK _ _ (.inl rfl) ?_
        refine wpAnyC_one 11 rfl rfl (by kernel_rfl) (fun K hK => ?_)
        go_wp2
        refine hK _ _ (.inl rfl) ?_
        refine wpAnyC_end (by kernel_rfl) ?_
        have hne1 : a ≠ bx := by omega
        have hcl2 : cl ≤ 100 := by omega
        have hch2 : ch ≤ 100 := by omega
        rcases Nat.lt_or_ge v y with hyv | hyv
        all_goals
          rcases Nat.lt_or_ge hi y with hyh | hyh
        · have i1 : (v : Int) < y := by omega
          have i2 : (hi : Int) < y := by omega
          go_wp2
          go_roundw
          case rel =>
            obtain ⟨e1, e2, e4, e5⟩ := stored1' rfl hv' (fun j hj => by have := hfr j hj; omega) rx2 hB2 hbx
            exact ⟨k + 1, _, by omega, by go_num, by rw [HL.out, if_neg (by simp; omega)]; rfl, by rw [HH.out, if_neg (by simp; omega)]; rfl, e1, e2, fun j hj => by have := hfr j hj; omega, e4⟩
          case measure => simp [intOf]; omega
        · have i1 : (v : Int) < y := by omega
          have i2 : (y : Int) ≤ hi := by omega
          go_wp2
          go_roundw
          case rel =>
            obtain ⟨e1, e2, e4, e5⟩ := stored1' rfl hv' (fun j hj => by have := hfr j hj; omega) rx2 hB2 hbx
            exact ⟨k + 1, _, by omega, by go_num, by rw [HL.out, if_neg (by simp; omega)]; rfl, by rw [HH.out, if_pos (by simp; omega)]; rfl, e1, e2, fun j hj => by have := hfr j hj; omega, e4⟩
          case measure => simp [intOf]; omega
        · omega
        · have i1 : (y : Int) ≤ v := by omega
          have i2 : (y : Int) ≤ hi := by omega
          go_wp2
          go_roundw
          case rel =>
            obtain ⟨e1, e2, e4, e5⟩ := stored1' rfl hv' (fun j hj => by have := hfr j hj; omega) rx2 hB2 hbx
            exact ⟨k + 1, _, by omega, by go_num, by rw [HL.out, if_pos (by simp; omega)]; rfl, by rw [HH.out, if_pos (by simp; omega)]; rfl, e1, e2, fun j hj => by have := hfr j hj; omega, e4⟩
          case measure => simp [intOf]; omega
      · go_wp2
        refine hK _ _ (.inr (Gr.of (g.below.alloc hgl _))) ?_
        refine wpAnyC_one 5 rfl rfl (by kernel_rfl) (fun K hK => ?_)
        go_wp2_with fail
        refine Calls.mono (HA.out _ (g.below.alloc hgl _)) ?_
        rintro e w2 ⟨v', rfl, hv', hb, hfr⟩
        obtain ⟨vp, vcap, hveq, -⟩ := hv'.form
        subst hveq
        have nx := (RowAt.new_at g.world #[.int .i64 0, .slice none 0 0] 25 g.world.heap.size rfl).below hb (by simp)
        have hbw : Below wr.heap.size wr w2 := (g.below.alloc hgl _).trans (hb.mono (by simp; omega))
        have rx2 := rx.below hbw xl
        have hB2 : Below w.heap.size w w2 := hB.trans (hbw.mono hBs)
        have hbs := hbw.size
        have hbs2 := hb.size
        simp only [World.size_alloc] at hbs2 hfr
        have hc2 : w2.cell? ⟨a, off + k, none⟩ = some (.int .u64 y) := (hbw.cell (p := ⟨a, off + k, none⟩) hal).trans hc0
        have hal2 : a < w2.heap.size := by omega
        obtain ⟨x2c0, x2c1, x2f0, x2f1, x2l⟩ := rx2.two
        obtain ⟨nxc0, nxc1, nxf0, nxf1, nxl⟩ := nx.two
        clear HA
        generalize hvl : (ofL f (onesI (Z.take (k + 1)))).length = vl at *
        go_wp2_with fail
        refine hK _ _ (.inr (Gr.of hbw)) ?_
        refine wpAnyC_pureL 6 (by kernel_rfl) ?_
        simp only [List.drop_succ_cons, List.drop_zero, List.take_succ_cons, List.take_zero]
        go_big_quiet_step (first | fail)
        refine wpQuiet_nil ?_
        refine wpAnyC_pureL 7 (by kernel_rfl) ?_
        simp only [List.drop_succ_cons, List.drop_zero, List.take_succ_cons, List.take_zero]
        go_big_quiet_step (first | fail)
        refine wpQuiet_nil ?_
        refine wpAnyC_pureL 8 (by kernel_rfl) ?_
        simp only [List.drop_succ_cons, List.drop_zero, List.take_succ_cons, List.take_zero]
        go_big_quiet_step (first | fail)
        refine wpQuiet_nil ?_
        refine wpAnyC_one 10 rfl rfl (by kernel_rfl) (fun K hK => ?_)
        go_wp2
        refine hK _ _ (.inl rfl) ?_
        refine wpAnyC_one 11 rfl rfl (by kernel_rfl) (fun K hK => ?_)
        go_wp2
        refine hK _ _ (.inl rfl) ?_
        refine wpAnyC_end (by kernel_rfl) ?_
        have hne2 : a ≠ g.world.heap.size := by omega
        have hne1 : a ≠ bx := by omega
        have hcl2 : cl ≤ 100 := by omega
        have hch2 : ch ≤ 100 := by omega
        rcases Nat.lt_or_ge v y with hyv | hyv
        all_goals
          rcases Nat.lt_or_ge hi y with hyh | hyh
        · have i1 : (v : Int) < y := by omega
          have i2 : (hi : Int) < y := by omega
          go_wp2
          go_roundw
          case rel =>
            obtain ⟨e1, e2, e4, e5⟩ := stored1 (b := g.world.heap.size) rfl hv' (fun j hj => by have := hfr j hj; omega) rx2 hB2 hbx (by omega)
            exact ⟨k + 1, _, by omega, by go_num, by rw [HL.out, if_neg (by simp; omega)]; rfl, by rw [HH.out, if_neg (by simp; omega)]; rfl, e1, e2, fun j hj => by have := hfr j hj; omega, e4⟩
          case measure => simp [intOf]; omega
        · have i1 : (v : Int) < y := by omega
          have i2 : (y : Int) ≤ hi := by omega
          go_wp2
          go_roundw
          case rel =>
            obtain ⟨e1, e2, e4, e5⟩ := stored1 (b := g.world.heap.size) rfl hv' (fun j hj => by have := hfr j hj; omega) rx2 hB2 hbx (by omega)
            exact ⟨k + 1, _, by omega, by go_num, by rw [HL.out, if_neg (by simp; omega)]; rfl, by rw [HH.out, if_pos (by simp; omega)]; rfl, e1, e2, fun j hj => by have := hfr j hj; omega, e4⟩
          case measure => simp [intOf]; omega
        · omega
        · have i1 : (y : Int) ≤ v := by omega
          have i2 : (y : Int) ≤ hi := by omega
          go_wp2
          go_roundw
          case rel =>
            obtain ⟨e1, e2, e4, e5⟩ := stored1 (b := g.world.heap.size) rfl hv' (fun j hj => by have := hfr j hj; omega) rx2 hB2 hbx (by omega)
            exact ⟨k + 1, _, by omega, by go_num, by rw [HL.out, if_pos (by simp; omega)]; rfl, by rw [HH.out, if_pos (by simp; omega)]; rfl, e1, e2, fun j hj => by have := hfr j hj; omega, e4⟩
          case measure => simp [intOf]; omega
    · obtain rfl : k = Z.length := by omega
      rw [List.take_length] at hu hub rx xc1
      have hnl : rankH f (ofL f (onesI Z)) v = Z.countP fun y => decide (y ≤ hi) := hrank.trans hhigh
      have hbw : Below w.heap.size w wr := hB
      have kr : ∀ (x : Nat), x < 18446744073709551616 → ∀ g : Gr wr, Calls Try.prog 22 #[HistV f (.slice up (ofL f (onesI Z)).length ucap), .int .u64 x] g.world fun e w' => e = .returned (.int .u64 (rankH f (ofL f (onesI Z)) x : Nat)) ∧ Below g.world.heap.size g.world w' := fun x hx g => rank_any f x _ _ g.world (hu.at_ g.below) hx
      have krv := kr v hv
      rw [hnl] at krv
      have krv0 := krv ⟨wr, Below.refl _ _⟩
      have kt : ∀ g : Gr wr, Calls Try.prog 23 #[HistV f (.slice up (ofL f (onesI Z)).length ucap)] g.world fun e w' => e = .returned (.int .u64 (Z.length : Nat)) ∧ Below g.world.heap.size g.world w' := fun g => by
        have := total_any f _ _ g.world (hu.at_ g.below)
        rwa [htot] at this
      have hqw : IntKind.u64.wrap (q : Int) = (q : Nat) := by rw [IntKind.wrap_u64]; omega
      have ksel : ∀ g : Gr wr, Calls Try.prog 24 #[HistV f (.slice up (ofL f (onesI Z)).length ucap), .int .u64 (q : Nat)] g.world fun e w' => e = bndRes (selectB f (ofL f (onesI Z)) q) ∧ Below g.world.heap.size g.world w' := fun g => select_any f _ _ _ g.world (hu.at_ g.below) (by omega)
      have hmn : min (n : Int) 100 = (Z.length : Nat) := by have := HZ.out; omega
      have hcw : IntKind.u64.wrap ((Z.length : Nat) : Int) = (Z.length : Nat) := by rw [IntKind.wrap_u64]; omega
      have hlow2 : Z.countP (fun y => decide (y ≤ v)) ≤ Z.countP (fun y => decide (y ≤ hi)) := by rw [← hhigh]; exact hlow
      generalize hul : (ofL f (onesI Z)).length = ul at *
      rw [List.take_length]
      generalize Z.countP (fun y => decide (y ≤ v)) = cl at *
      generalize Z.countP (fun y => decide (y ≤ hi)) = ch at *
      have hlowI : ¬ ((ch : Int) < cl) := by omega
      by_cases hkn : Z.length < n
      · have i1 : ((Z.length : Nat) : Int) < n := by omega
        have i2 : ¬ (((Z.length : Nat) : Int) < 100) := by have := HZ.out; omega
        go_wp2_with fail
        with_reducible refine Calls.mono (Calls.gr0 (krv0)) ?_
        rintro e w' ⟨rfl, g, rfl⟩
        have hgl := g.le
        try simp only [World.size_alloc] at hgl
        try simp only [World.size_setCell] at hgl
        go_wp2_with fail
        with_reducible refine Calls.mono (Calls.gr (kt g)) ?_
        rintro e w' ⟨rfl, g, rfl⟩
        have hgl := g.le
        try simp only [World.size_alloc] at hgl
        try simp only [World.size_setCell] at hgl
        go_wp2_with fail
        have hqd : ∀ g : Gr wr, True := fun _ => trivial
        with_reducible refine Calls.mono (ksel g) ?_
        rintro e w5 ⟨rfl, hb5⟩
        have hb5' : Below wr.heap.size wr w5 := g.below.trans (hb5.mono g.le)
        obtain ⟨g5, hg5⟩ := Gr.of hb5'
        subst hg5
        have hg5l := g5.le
        rcases hsel.out with ⟨q1, q2⟩ | ⟨q1, lo5, hi5, q2, q3, q4, q5, q6⟩
        · rw [q2, bndRes_none]
          clear hsel kr krv krv0 kt ksel hb5 hqd q2
          by_cases hpl : pl < 0
          · have hn0 : n = 0 := by have := HZ.out; omega
            subst hn0
            first
              | (exfalso; omega)
              | (go_wp2_with fail
                 go_ret
                 exact ⟨by first | rfl | (simp; done) | (simp; omega), hB.trans (g5.below.mono hBs)⟩)
          · have hple : ((Z.length : Nat) : Int) ≤ pl := by omega
            go_wp2_with fail
            go_ret
            exact ⟨by first | rfl | (simp; done) | (simp; omega), hB.trans (g5.below.mono hBs)⟩
        · rw [q2, bndRes_some]
          clear hsel krv krv0 kt ksel hb5 hqd q2
          by_cases hpl : pl < 0
          · have hn0 : (0 : Int) < n := by have := HZ.out; omega
            go_wp2_with fail
            go_ret
            exact ⟨by first | rfl | (simp; done) | (simp; omega), hB.trans (g5.below.mono hBs)⟩
          · have hplq : pl = (q : Int) := by omega
            subst hplq
            have hqz : (q : Int) < (Z.length : Nat) := by omega
            have kb := kr hi5 q4 g5
            generalize rankH f (ofL f (onesI Z)) hi5 = rh at *
            have hrh : (q : Int) < rh := by omega
            by_cases hlo5 : lo5 = 0
            · subst hlo5
              clear q6 kr
              go_wp2_with fail
              with_reducible refine Calls.mono (Calls.gr (kb)) ?_
              rintro e w' ⟨rfl, g, rfl⟩
              have hgl := g.le
              try simp only [World.size_alloc] at hgl
              try simp only [World.size_setCell] at hgl
              go_wp2_with fail
              go_ret
              exact ⟨by first | rfl | (simp; done) | (simp; omega), hB.trans (g.below.mono hBs)⟩
            · have kl : ∀ g : Gr wr, Calls Try.prog 22 #[HistV f (.slice up ul ucap), .int .u64 ((lo5 : Int) - 1)] g.world fun e w' => e = .returned (.int .u64 (rankH f (ofL f (onesI Z)) (lo5 - 1) : Nat)) ∧ Below g.world.heap.size g.world w' := fun g => by
                have := kr (lo5 - 1) (by omega) g
                rwa [show ((lo5 - 1 : Nat) : Int) = (lo5 : Int) - 1 by omega] at this
              have q7 := q6 hlo5
              generalize rankH f (ofL f (onesI Z)) (lo5 - 1) = rl at *
              have hrl : (rl : Int) ≤ q := by omega
              clear q6 kr
              go_wp2_with fail
              with_reducible refine Calls.mono (Calls.gr (kb)) ?_
              rintro e w' ⟨rfl, g, rfl⟩
              have hgl := g.le
              try simp only [World.size_alloc] at hgl
              try simp only [World.size_setCell] at hgl
              go_wp2_with fail
              with_reducible refine Calls.mono (Calls.gr (kl g)) ?_
              rintro e w' ⟨rfl, g, rfl⟩
              have hgl := g.le
              try simp only [World.size_alloc] at hgl
              try simp only [World.size_setCell] at hgl
              go_wp2_with fail
              go_ret
              exact ⟨by first | rfl | (simp; done) | (simp; omega), hB.trans (g.below.mono hBs)⟩
      · have i1 : ¬ (((Z.length : Nat) : Int) < n) := by omega
        go_wp2_with fail
        with_reducible refine Calls.mono (Calls.gr0 (krv0)) ?_
        rintro e w' ⟨rfl, g, rfl⟩
        have hgl := g.le
        try simp only [World.size_alloc] at hgl
        try simp only [World.size_setCell] at hgl
        go_wp2_with fail
        with_reducible refine Calls.mono (Calls.gr (kt g)) ?_
        rintro e w' ⟨rfl, g, rfl⟩
        have hgl := g.le
        try simp only [World.size_alloc] at hgl
        try simp only [World.size_setCell] at hgl
        go_wp2_with fail
        have hqd : ∀ g : Gr wr, True := fun _ => trivial
        with_reducible refine Calls.mono (ksel g) ?_
        rintro e w5 ⟨rfl, hb5⟩
        have hb5' : Below wr.heap.size wr w5 := g.below.trans (hb5.mono g.le)
        obtain ⟨g5, hg5⟩ := Gr.of hb5'
        subst hg5
        have hg5l := g5.le
        rcases hsel.out with ⟨q1, q2⟩ | ⟨q1, lo5, hi5, q2, q3, q4, q5, q6⟩
        · rw [q2, bndRes_none]
          clear hsel kr krv krv0 kt ksel hb5 hqd q2
          by_cases hpl : pl < 0
          · have hn0 : n = 0 := by have := HZ.out; omega
            subst hn0
            first
              | (exfalso; omega)
              | (go_wp2_with fail
                 go_ret
                 exact ⟨by first | rfl | (simp; done) | (simp; omega), hB.trans (g5.below.mono hBs)⟩)
          · have hple : ((Z.length : Nat) : Int) ≤ pl := by omega
            go_wp2_with fail
            go_ret
            exact ⟨by first | rfl | (simp; done) | (simp; omega), hB.trans (g5.below.mono hBs)⟩
        · rw [q2, bndRes_some]
          clear hsel krv krv0 kt ksel hb5 hqd q2
          by_cases hpl : pl < 0
          · have hn0 : (0 : Int) < n := by have := HZ.out; omega
            go_wp2_with fail
            go_ret
            exact ⟨by first | rfl | (simp; done) | (simp; omega), hB.trans (g5.below.mono hBs)⟩
          · have hplq : pl = (q : Int) := by omega
            subst hplq
            have hqz : (q : Int) < (Z.length : Nat) := by omega
            have kb := kr hi5 q4 g5
            generalize rankH f (ofL f (onesI Z)) hi5 = rh at *
            have hrh : (q : Int) < rh := by omega
            by_cases hlo5 : lo5 = 0
            · subst hlo5
              clear q6 kr
              go_wp2_with fail
              with_reducible refine Calls.mono (Calls.gr (kb)) ?_
              rintro e w' ⟨rfl, g, rfl⟩
              have hgl := g.le
              try simp only [World.size_alloc] at hgl
              try simp only [World.size_setCell] at hgl
              go_wp2_with fail
              go_ret
              exact ⟨by first | rfl | (simp; done) | (simp; omega), hB.trans (g.below.mono hBs)⟩
            · have kl : ∀ g : Gr wr, Calls Try.prog 22 #[HistV f (.slice up ul ucap), .int .u64 ((lo5 : Int) - 1)] g.world fun e w' => e = .returned (.int .u64 (rankH f (ofL f (onesI Z)) (lo5 - 1) : Nat)) ∧ Below g.world.heap.size g.world w' := fun g => by
                have := kr (lo5 - 1) (by omega) g
                rwa [show ((lo5 - 1 : Nat) : Int) = (lo5 : Int) - 1 by omega] at this
              have q7 := q6 hlo5
              generalize rankH f (ofL f (onesI Z)) (lo5 - 1) = rl at *
              have hrl : (rl : Int) ≤ q := by omega
              clear q6 kr
              go_wp2_with fail
              with_reducible refine Calls.mono (Calls.gr (kb)) ?_
              rintro e w' ⟨rfl, g, rfl⟩
              have hgl := g.le
              try simp only [World.size_alloc] at hgl
              try simp only [World.size_setCell] at hgl
              go_wp2_with fail
              with_reducible refine Calls.mono (Calls.gr (kl g)) ?_
              rintro e w' ⟨rfl, g, rfl⟩
              have hgl := g.le
              try simp only [World.size_alloc] at hgl
              try simp only [World.size_setCell] at hgl
              go_wp2_with fail
              go_ret
              exact ⟨by first | rfl | (simp; done) | (simp; omega), hB.trans (g.below.mono hBs)⟩
/-- The first hundred numbers of those that came in. -/
theorem nums_few {w : World} {a : Option Addr} {len cap : Nat} {zs : List Int} (h : (a = none ∧ len = 0 ∧ cap = 0 ∧ zs = []) ∨
    ∃ x, a = some x ∧ len ≤ cap ∧ cap ≤ maxLen ∧ zs.length = cap ∧ (∀ i, i < zs.length → w.cell? (x.add i) = some (.int .u64 (zs.getD i 0))) ∧ ∀ n ∈ zs, (Lit.int .u64 n).wf = true) :
    len ≤ 9223372036854775807 ∧ ∃ Z : List Nat, Z.length = min len 100 ∧ (∀ z ∈ Z, z < 18446744073709551616) ∧
      (Z ≠ [] → ∃ b off, a = some ⟨b, off, none⟩ ∧ b < w.heap.size ∧ ∀ i (h : i < Z.length), w.cell? ⟨b, off + i, none⟩ = some (.int .u64 (Z[i] : Nat))) := by
  rcases h with ⟨rfl, rfl, rfl, rfl⟩ | ⟨x, rfl, hl, hm, hz, hc, hw⟩
  · exact ⟨by omega, [], rfl, by simp, fun h => absurd rfl h⟩
  · have hlz : len ≤ zs.length := by omega
    refine ⟨by unfold maxLen at hm; omega, ((zs.take len).take 100).map Int.toNat, by simp; omega, ?_, fun hne => ?_⟩
    · intro z hzm
      obtain ⟨n, hn, rfl⟩ := List.mem_map.1 hzm
      have := bounds_u64 (hw n (List.mem_of_mem_take (List.mem_of_mem_take hn)))
      omega
    · have hpos : 0 < zs.length := by
        rcases Nat.eq_zero_or_pos zs.length with h | h
        · obtain rfl := List.eq_nil_of_length_eq_zero h
          simp at hne
        · exact h
      obtain ⟨b, off, spot⟩ := x
      have hc0 := hc 0 hpos
      have hspot : spot = none := by simpa [Addr.add] using World.cell?_spot hc0
      subst hspot
      have hb : b < w.heap.size := by
        rcases Nat.lt_or_ge b w.heap.size with h | h
        · exact h
        · simp [World.cell?, Addr.add, Array.getElem?_eq_none h] at hc0
      have hadd : ∀ i, (⟨b, off, none⟩ : Addr).add i = ⟨b, off + i, none⟩ := fun i => by by_cases h0 : i = 0 <;> simp [Addr.add, h0]
      refine ⟨b, off, rfl, hb, fun i hi => ?_⟩
      have hi2 : i < zs.length := by simp at hi; omega
      have := hc i hi2
      rw [hadd] at this
      rw [this]
      have h3 := bounds_u64 (hw zs[i] (List.getElem_mem hi2))
      simp [List.getD, hi2]
      omega
theorem ranks_law (f pl : Int) (p : Option Addr) (n cap : Nat) (Z : List Nat) (v : Nat) (w : World) (hv : v < 18446744073709551616) (hn : n ≤ 9223372036854775807) (hpl : pl ≤ 9223372036854775807) (hZl : Z.length = min n 100) (hZ : ∀ z ∈ Z, z < 18446744073709551616)
    (hc : Z ≠ [] → ∃ a off, p = some ⟨a, off, none⟩ ∧ a < w.heap.size ∧ ∀ i (h : i < Z.length), w.cell? ⟨a, off + i, none⟩ = some (.int .u64 (Z[i] : Nat))) :
    Calls Try.prog 5 #[.int .i64 f, .slice p n cap, .int .u64 v, .int .i64 pl] w fun e w' => e = .returned (.bool true) ∧ Below w.heap.size w w' := by
  cases h : fineB f
  · exact ranks_law_no f pl _ v w h
  · obtain ⟨h1, h2⟩ := fine_bd h
    obtain ⟨n0, rfl⟩ := Int.eq_ofNat_of_zero_le (a := f) h1
    obtain ⟨q, hq⟩ := Int.eq_ofNat_of_zero_le (a := max 0 pl) (by omega)
    exact ranks_law_yes n0 q pl hq (by omega) p n cap Z v w (by omega) hv hn hZl hZ hc
end Go.Proofs.Ytnoemopaplopdaa
