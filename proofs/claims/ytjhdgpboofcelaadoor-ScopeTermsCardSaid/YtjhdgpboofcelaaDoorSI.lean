/- Package scope: Right, its walk. -/
import Derived.Test.YtjhdgpboofcelaaDoorSJ
import Derived.Test.YtjhdgpboofcelaaDoorFreeG
namespace Go.Proofs.YtjhdgpboofcelaaDoor
open Go.RowKit
attribute [local go_sem] Oper.semAt_some

set_option maxRecDepth 100000 in
set_option maxHeartbeats 4000000 in
theorem scopeRight_some (s : ByteArray) (w : World) (hs : s.size ≤ 1000000) (h0 : s.data.toList ≠ []) :
    Calls Tryd.prog 11 #[.string s] w fun e w' => e = .returned (.bool (termsOk (termsA s.data.toList))) ∧ Below w.heap.size w w' := by
  have hA : AllS (splitA s.data.toList) := splitA_all _ _ (Nat.le_refl _) (by rw [data_length]; exact hs)
  have hsl := split_length s.data.toList
  rw [data_length] at hsl
  have hne : s.toList.isEmpty = false := by
    rw [Lib.toList_data]
    simpa using h0
  refine calls_of_marks Tryd.func11 rfl ?_
  simp only [Tryd.ntmps11, List.size_toArray, List.length_cons, List.length_nil, Nat.reduceAdd, Nat.reduceSub, Array.replicate_succ, Array.replicate_zero, List.push_toArray, List.append_toArray, List.nil_append, List.cons_append]
  go_wp2
  go_step3
  go_wp2
  go_step3
  go_wp2_with (first
    | (go_at_call 16; refine Calls.mono (terms_any _ _) ?_; rintro e w' ⟨rfl, rfl⟩))
  refine wp_named (fun W hW => ?_)
  have hBW : Below w.heap.size w W := by rw [hW]; exact (by repeat (first | exact Below.refl _ _ | assumption | (refine Below.setCell ?_ (by (first | omega | (simp; done) | (simp; omega) | (simp at *; omega))) _) | (refine Below.alloc ?_ (by (first | omega | (simp; done) | (simp; omega) | (simp at *; omega))) _) | (refine Below.drew ?_) | (refine Gr.into _ ?_ (by (first | omega | (simp; done) | (simp; omega) | (simp at *; omega))))))
  have nb : RowAt W (w.heap.size) 28 [.slice none 0 0] := by rw [hW]; exact (by repeat (first | assumption | exact RowAt.new_at _ _ _ _ (by (first | omega | (simp; done) | (simp; omega) | (simp at *; omega))) | (refine RowAt.alloc ?_ _) | (refine RowAt.gr ?_ _) | (refine RowAt.setOther ?_ _ _ (by (first | omega | (simp; done) | (simp; omega) | (simp at *; omega)))) | (refine RowAt.drew ?_)))
  have rb : RowAt W (w.heap.size + 1) 4 [.bool true] := by rw [hW]; exact (by repeat (first | assumption | exact RowAt.new_at _ _ _ _ (by (first | omega | (simp; done) | (simp; omega) | (simp at *; omega))) | (refine RowAt.alloc ?_ _) | (refine RowAt.gr ?_ _) | (refine RowAt.setOther ?_ _ _ (by (first | omega | (simp; done) | (simp; omega) | (simp at *; omega)))) | (refine RowAt.drew ?_)))
  have bx : RowAt W (w.heap.size + 2) 9 [.string s] := by rw [hW]; exact (by repeat (first | assumption | exact RowAt.new_at _ _ _ _ (by (first | omega | (simp; done) | (simp; omega) | (simp at *; omega))) | (refine RowAt.alloc ?_ _) | (refine RowAt.gr ?_ _) | (refine RowAt.setOther ?_ _ _ (by (first | omega | (simp; done) | (simp; omega) | (simp at *; omega)))) | (refine RowAt.drew ?_)))
  clear hW
  obtain ⟨nbc0, nbf0, nbl⟩ := nb.one
  obtain ⟨rbc0, rbf0, rbl⟩ := rb.one
  obtain ⟨bxc0, bxf0, bxl⟩ := bx.one
  rename_i K hK
  have hWs := hBW.size
  have tail : ∀ (r : Bool) (q : List TB) (X : World), NamesAt (W.heap.size + 6) w.heap.size (w.heap.size + 1) w.heap.size w r q X → X.heap[W.heap.size]? = some (.deferred (some [])) → q.length ≤ 1000001 →
      termsOk (termsA s.data.toList) = (r && decide (q.map (·.1.1) = Lib.compact (sortS (q.map (·.1.1))).toList) && decide (q.length ≤ 4)) →
      K { tmps := #[.string s, undef, .bool false, .pointer (some ⟨w.heap.size, 0, none⟩), .pointer (some ⟨w.heap.size + 1, 0, none⟩), undef, undef, undef, .string s, .bool false, .string s, .func (.func 29) #[] #[.pointer (some ⟨w.heap.size + 1 + 1, 0, none⟩)], undef, undef, undef, undef, undef, undef, undef, undef, undef, undef, undef, undef, undef, undef, undef, undef, undef, undef, undef, undef, undef, undef, undef, undef, undef, undef, undef, undef, undef, undef, undef, undef, undef, undef], defers := [{ target := .collected W.heap.size, args := #[] }] } X := by
    intro r q X hNA hD hq hres
    obtain ⟨v, rn, own, rr, hb⟩ := hNA
    obtain ⟨ns, hns⟩ : ∃ ns, q.map (·.1.1) = ns := ⟨_, rfl⟩
    have hl : ns.length = q.length := by rw [← hns]; simp
    have own2 : X.ownsRow (W.heap.size + 6) 9 1 v ns.length (ns.map fun l => .string ⟨l.toArray⟩) := by
      rw [hl, ← hns, List.map_map]
      exact own
    clear own
    rw [hns, ← hl] at hres
    rw [← hl] at hq
    clear hns hl q
    obtain ⟨c0, c1, c2⟩ := rn.one
    obtain ⟨p, cap, rfl⟩ : ∃ p cap, v = .slice p ns.length cap := by
      obtain ⟨-, ⟨rfl, h0⟩ | ⟨g, cp, cur, rfl, -⟩⟩ := id own2
      · exact ⟨none, 0, by rw [h0]⟩
      · exact ⟨_, _, rfl⟩
    obtain ⟨X2, hcp, hH, hB2, hs2⟩ := copy_at _ _ ns.length ns X own2 rfl 28 28 Tryd.underlying28
    obtain ⟨i0, hi, hz0, hz1, hz2⟩ := info_parts (show (Tryd.prog.info? 9).map (fun i => (i.zero, i.size, i.bytes)) = some (some (.string ⟨#[]⟩), 1, 16) by kernel_rfl)
    have HI := Lib.hid hi
    go_wp2_with (at_make; refine wpList_make_row _ rfl _ _ 28 rfl 9 i0 (.string ⟨#[]⟩) Tryd.underlying28 hi hz0 hz1 rfl .i64 .i64 ns.length rfl rfl (by rw [hz2]; omega) (by omega) ?_)
    refine (sort_at X.heap.size ns.length ns X2 hH hs2 (by omega)).mono ?_
    rintro e X3 ⟨rfl, hB3, hH3, hs3⟩
    obtain ⟨zs, hzs⟩ : ∃ zs, (sortS ns).toList = zs := ⟨_, rfl⟩
    have hzl : zs.length = ns.length := by rw [← hzs]; simp [sortS_size]
    have hza : sortS ns = zs.toArray := by rw [← hzs]
    rw [hza] at hH3
    rw [hzs] at hres
    have hBX3 : Below X.heap.size X X3 := hB2.trans hB3
    have hcm := fun Z (hZ : Below X3.heap.size X3 Z) => compact_at X.heap.size ns.length zs Z (holds_below hH3 hZ hs3) (by omega) (by omega)
    rw [hzl] at hcm
    have hle := Lib.compact_length_le zs
    have own3 := ownsRow_below own2 hBX3
    obtain ⟨d0, d1, d2⟩ := (rr.below hBX3 rr.lt).one
    obtain ⟨e0, e1, e2⟩ := (rn.below hBX3 rn.lt).one
    have hD3 : X3.heap[W.heap.size]? = some (.deferred (some [])) := (hBX3.block _ (Array.getElem?_eq_some_iff.1 hD).1).trans hD
    have HL := Lib.hid (And.intro hzl hza)
    have HO := Lib.hid own2
    have HH := Lib.hid hH
    have hbX3 : Below w.heap.size w X3 := hb.trans (hBX3.mono hb.size)
    clear hzl hza hzs own2 hH c0 c1 c2 hcp hi hz0 hz1 hz2 hH3 hB2 hB3
    cases r
    · clear hcm
      go_wp2
      refine wp_region_gr (by kernel_rfl) (by kernel_rfl) ?_
      repeat (go_big_quiet_step (first | fail))
      refine wpQuiet_nil ?_
      intro g
      have hgl := g.le
      have hDg : g.world.heap[W.heap.size]? = some (.deferred (some [])) := (g.below.block _ (Array.getElem?_eq_some_iff.1 hD3).1).trans hD3
      have hbg : Below w.heap.size w g.world := hbX3.trans (g.below.mono hbX3.size)
      go_wp2
      rw [Exit.noGoto_ret]
      exact bodyPostM_ret1 (v := .bool false) hDg (by simp [results, Tryd.f11, go_sem]) rfl ⟨by rw [hres]; rfl, below_putObj hbg hDg (by omega)⟩
    · have HCM := Lib.hid hcm
      clear hcm
      go_wp2
      refine wp_region_gr_free 2 11 [2, 4, 5, 6, 7, 8, 9, 10, 11, 12] (by kernel_rfl) (by kernel_rfl) ?_
      simp only [List.take_succ_cons, List.take_zero]
      repeat (go_big_quiet_step (first | fail))
      refine wpQuiet_nil ?_
      intro g
      have hgl := g.le
      refine wpAnyC_pureL 3 (by kernel_rfl) ?_
      simp only [List.drop_succ_cons, List.drop_zero, List.take_succ_cons, List.take_zero]
      go_big_quiet_step (first | fail)
      refine wpQuiet_nil ?_
      refine wpAnyC_twoW 2 4 rfl rfl rfl rfl (by kernel_rfl) (fun K hK => ?_) (fun K hK => ?_)
      · go_wp2
        refine hK _ _ (.inl rfl) ?_
        refine wpAnyC_oneW 4 rfl rfl (by kernel_rfl) (fun K hK => ?_)
        go_wp2_with fail
        refine (HCM.out _ g.below).mono ?_
        rintro e X4 ⟨rfl, hB4, hcells⟩
        have hBX4 : Below X.heap.size X X4 := (hBX3.trans (g.below.mono (by omega))).trans hB4
        have heq := equal_at (.slice p ns.length cap) (W.heap.size + 6) X.heap.size ns.length ns (Lib.compact zs) X4 (ownsRow_below HO.out hBX4) hcells (by omega) (by have := HL.out.1; omega)
        generalize decide (ns = Lib.compact zs) = eqv at *
        obtain ⟨f0, f1, f2⟩ := (rn.below hBX4 rn.lt).one
        clear hcells d0 d1 d2 e0 e1 e2
        go_wp2_with fail
        refine hK _ _ (.inl rfl) ?_
        refine wpAnyC_oneW 5 rfl rfl (by kernel_rfl) (fun K hK => ?_)
        go_wp2_with fail
        refine heq.mono ?_
        rintro e X5 ⟨rfl, hB5⟩
        have hBX5 : Below X.heap.size X X5 := hBX4.trans (hB5.mono (by have := hBX4.size; omega))
        have hD5 : X5.heap[W.heap.size]? = some (.deferred (some [])) := (hBX5.block _ (Array.getElem?_eq_some_iff.1 hD).1).trans hD
        have hbX5 : Below w.heap.size w X5 := hb.trans (hBX5.mono hb.size)
        obtain ⟨u0, u1, u2⟩ := (rn.below hBX5 rn.lt).one
        clear heq f0 f1 f2
        go_wp2_with fail
        refine hK _ _ (.inl rfl) ?_
        cases eqv
        · refine wpAnyC_pureL 6 (by kernel_rfl) ?_
          simp only [List.drop_succ_cons, List.drop_zero, List.take_succ_cons, List.take_zero]
          go_big_quiet_step (first | fail)
          refine wpQuiet_nil ?_
          refine wpAnyC_pureL 7 (by kernel_rfl) ?_
          simp only [List.drop_succ_cons, List.drop_zero, List.take_succ_cons, List.take_zero]
          go_big_quiet_step (first | fail)
          refine wpQuiet_nil ?_
          refine wpAnyC_skipW 8 rfl rfl (by kernel_rfl) rfl rfl ?_
          refine wpAnyC_skipW 9 rfl rfl (by kernel_rfl) rfl rfl ?_
          refine wpAnyC_skipW 10 rfl rfl (by kernel_rfl) rfl rfl ?_
          refine wpAnyC_pureL 11 (by kernel_rfl) ?_
          simp only [List.drop_succ_cons, List.drop_zero, List.take_succ_cons, List.take_zero]
          go_big_quiet_step (first | fail)
          refine wpQuiet_nil ?_
          refine wpAnyC_pureL 12 (by kernel_rfl) ?_
          simp only [List.drop_succ_cons, List.drop_zero, List.take_succ_cons, List.take_zero]
          go_big_quiet_step (first | fail)
          refine wpQuiet_nil ?_
          refine wpAnyC_end (by kernel_rfl) ?_
          go_wp2
          rw [Exit.noGoto_ret]
          exact bodyPostM_ret1 (v := .bool false) hD5 (by simp [results, Tryd.f11, go_sem]) rfl ⟨by rw [hres]; rfl, below_putObj hbX5 hD5 (by omega)⟩
        · refine wpAnyC_pureL 6 (by kernel_rfl) ?_
          simp only [List.drop_succ_cons, List.drop_zero, List.take_succ_cons, List.take_zero]
          go_big_quiet_step (first | fail)
          refine wpQuiet_nil ?_
          refine wpAnyC_pureL 7 (by kernel_rfl) ?_
          simp only [List.drop_succ_cons, List.drop_zero, List.take_succ_cons, List.take_zero]
          go_big_quiet_step (first | fail)
          refine wpQuiet_nil ?_
          refine wpAnyC_oneW 8 rfl rfl (by kernel_rfl) (fun K hK => ?_)
          go_wp2
          refine hK _ _ (.inl rfl) ?_
          refine wpAnyC_oneW 9 rfl rfl (by kernel_rfl) (fun K hK => ?_)
          go_wp2
          refine hK _ _ (.inl rfl) ?_
          refine wpAnyC_pureL 10 (by kernel_rfl) ?_
          simp only [List.drop_succ_cons, List.drop_zero, List.take_succ_cons, List.take_zero]
          go_big_quiet_step (first | fail)
          refine wpQuiet_nil ?_
          refine wpAnyC_pureL 11 (by kernel_rfl) ?_
          simp only [List.drop_succ_cons, List.drop_zero, List.take_succ_cons, List.take_zero]
          go_big_quiet_step (first | fail)
          refine wpQuiet_nil ?_
          refine wpAnyC_pureL 12 (by kernel_rfl) ?_
          simp only [List.drop_succ_cons, List.drop_zero, List.take_succ_cons, List.take_zero]
          go_big_quiet_step (first | fail)
          refine wpQuiet_nil ?_
          refine wpAnyC_end (by kernel_rfl) ?_
          go_wp2
          rw [Exit.noGoto_ret]
          exact bodyPostM_ret1 (v := .bool (decide ((ns.length : Int) ≤ 4))) hD5 (by simp [results, Tryd.f11, go_sem]) rfl ⟨by rw [hres]; simp; try omega, below_putObj hbX5 hD5 (by omega)⟩
      · go_wp2_with fail
        refine (HCM.out _ g.below).mono ?_
        rintro e X4 ⟨rfl, hB4, hcells⟩
        have hBX4 : Below X.heap.size X X4 := (hBX3.trans (g.below.mono (by omega))).trans hB4
        have heq := equal_at (.slice p ns.length cap) (W.heap.size + 6) X.heap.size ns.length ns (Lib.compact zs) X4 (ownsRow_below HO.out hBX4) hcells (by omega) (by have := HL.out.1; omega)
        generalize decide (ns = Lib.compact zs) = eqv at *
        obtain ⟨f0, f1, f2⟩ := (rn.below hBX4 rn.lt).one
        clear hcells d0 d1 d2 e0 e1 e2
        go_wp2_with fail
        refine hK _ _ (.inl rfl) ?_
        refine wpAnyC_oneW 2 rfl rfl (by kernel_rfl) (fun K hK => ?_)
        go_wp2
        refine hK _ _ (.inl rfl) ?_
        refine wpAnyC_oneW 5 rfl rfl (by kernel_rfl) (fun K hK => ?_)
        go_wp2_with fail
        refine heq.mono ?_
        rintro e X5 ⟨rfl, hB5⟩
        have hBX5 : Below X.heap.size X X5 := hBX4.trans (hB5.mono (by have := hBX4.size; omega))
        have hD5 : X5.heap[W.heap.size]? = some (.deferred (some [])) := (hBX5.block _ (Array.getElem?_eq_some_iff.1 hD).1).trans hD
        have hbX5 : Below w.heap.size w X5 := hb.trans (hBX5.mono hb.size)
        obtain ⟨u0, u1, u2⟩ := (rn.below hBX5 rn.lt).one
        clear heq f0 f1 f2
        go_wp2_with fail
        refine hK _ _ (.inl rfl) ?_
        cases eqv
        · refine wpAnyC_pureL 6 (by kernel_rfl) ?_
          simp only [List.drop_succ_cons, List.drop_zero, List.take_succ_cons, List.take_zero]
          go_big_quiet_step (first | fail)
          refine wpQuiet_nil ?_
          refine wpAnyC_pureL 7 (by kernel_rfl) ?_
          simp only [List.drop_succ_cons, List.drop_zero, List.take_succ_cons, List.take_zero]
          go_big_quiet_step (first | fail)
          refine wpQuiet_nil ?_
          refine wpAnyC_skipW 8 rfl rfl (by kernel_rfl) rfl rfl ?_
          refine wpAnyC_skipW 9 rfl rfl (by kernel_rfl) rfl rfl ?_
          refine wpAnyC_skipW 10 rfl rfl (by kernel_rfl) rfl rfl ?_
          refine wpAnyC_pureL 11 (by kernel_rfl) ?_
          simp only [List.drop_succ_cons, List.drop_zero, List.take_succ_cons, List.take_zero]
          go_big_quiet_step (first | fail)
          refine wpQuiet_nil ?_
          refine wpAnyC_pureL 12 (by kernel_rfl) ?_
          simp only [List.drop_succ_cons, List.drop_zero, List.take_succ_cons, List.take_zero]
          go_big_quiet_step (first | fail)
          refine wpQuiet_nil ?_
          refine wpAnyC_end (by kernel_rfl) ?_
          go_wp2
          rw [Exit.noGoto_ret]
          exact bodyPostM_ret1 (v := .bool false) hD5 (by simp [results, Tryd.f11, go_sem]) rfl ⟨by rw [hres]; rfl, below_putObj hbX5 hD5 (by omega)⟩
        · refine wpAnyC_pureL 6 (by kernel_rfl) ?_
          simp only [List.drop_succ_cons, List.drop_zero, List.take_succ_cons, List.take_zero]
          go_big_quiet_step (first | fail)
          refine wpQuiet_nil ?_
          refine wpAnyC_pureL 7 (by kernel_rfl) ?_
          simp only [List.drop_succ_cons, List.drop_zero, List.take_succ_cons, List.take_zero]
          go_big_quiet_step (first | fail)
          refine wpQuiet_nil ?_
          refine wpAnyC_oneW 8 rfl rfl (by kernel_rfl) (fun K hK => ?_)
          go_wp2
          refine hK _ _ (.inl rfl) ?_
          refine wpAnyC_oneW 9 rfl rfl (by kernel_rfl) (fun K hK => ?_)
          go_wp2
          refine hK _ _ (.inl rfl) ?_
          refine wpAnyC_pureL 10 (by kernel_rfl) ?_
          simp only [List.drop_succ_cons, List.drop_zero, List.take_succ_cons, List.take_zero]
          go_big_quiet_step (first | fail)
          refine wpQuiet_nil ?_
          refine wpAnyC_pureL 11 (by kernel_rfl) ?_
          simp only [List.drop_succ_cons, List.drop_zero, List.take_succ_cons, List.take_zero]
          go_big_quiet_step (first | fail)
          refine wpQuiet_nil ?_
          refine wpAnyC_pureL 12 (by kernel_rfl) ?_
          simp only [List.drop_succ_cons, List.drop_zero, List.take_succ_cons, List.take_zero]
          go_big_quiet_step (first | fail)
          refine wpQuiet_nil ?_
          refine wpAnyC_end (by kernel_rfl) ?_
          go_wp2
          rw [Exit.noGoto_ret]
          exact bodyPostM_ret1 (v := .bool (decide ((ns.length : Int) ≤ 4))) hD5 (by simp [results, Tryd.f11, go_sem]) rfl ⟨by rw [hres]; simp; try omega, below_putObj hbX5 hD5 (by omega)⟩
  refine (wpIn_wide (n := 9)).1 ?_
  refine wpIn_rangeFunc_turn (F := Fence.wide) (n := 9) rfl (by omega) (gf := 29) (lb := #[.pointer (some ⟨w.heap.size + 1 + 1, 0, none⟩)]) rfl trivial
    (enters_of Tryd.func29 (by kernel_rfl) rfl)
    (terms_stops 8 (w.heap.size + 1 + 1) s W bx hs hA (by omega)) (by rintro r rfl; omega) KeptAt.trans (fun X l' o o' h1 h2 _ _ _ => fun k hk => World.putObj_heap_other (by have := hk.1; omega)) (Below.refl _ _) (fun _ => rfl)
    (fun pre X => NamesAt (W.heap.size + 6) w.heap.size (w.heap.size + 1) w.heap.size w true pre X ∧ (pre.all fun x => okA x.1) = true)
    (fun c pre X => (∃ q x, pre = q ++ [x] ∧ (q.all fun x => okA x.1) = true ∧ okA x.1 = false ∧ NamesAt (W.heap.size + 6) w.heap.size (w.heap.size + 1) w.heap.size w false q X) ∧ c = Code.exit 0)
    (OwnTurn.and (namesAt_turn (Nat.le_refl _) hBW.size (by rintro r rfl; omega) (by rintro r rfl; omega) (by omega) (by omega)) (ownTurn_pure _ _ _))
    (fun c => by
      rintro pre X Y row ⟨⟨q, x, e1, e2, e3, e4⟩, e5⟩ hg hr
      exact ⟨⟨q, x, e1, e2, e3, namesAt_turn (T := fun r => r = W.heap.size + 2 + 1) (Nat.le_refl _) hBW.size (by rintro r rfl; omega) (by rintro r rfl; omega) (by omega) (by omega) q X Y row e4 hg hr⟩, e5⟩)
    ⟨⟨_, nb, World.ownsRow_nil _ _ _ _, rb, hBW⟩, rfl⟩
    (fun x a' _ => a' = { tmps := #[.string s, undef, .bool false, .pointer (some ⟨w.heap.size, 0, none⟩), .pointer (some ⟨w.heap.size + 1, 0, none⟩), .string ⟨x.1.1.toArray⟩, .string ⟨x.1.2.toArray⟩, undef, .string s, .bool false, .string s, .func (.func 29) #[] #[.pointer (some ⟨w.heap.size + 1 + 1, 0, none⟩)], .string ⟨x.1.1.toArray⟩, .string ⟨x.1.2.toArray⟩, undef, undef, undef, undef, undef, undef, undef, undef, undef, undef, undef, undef, undef, undef, undef, undef, undef, undef, undef, undef, undef, undef, undef, undef, undef, undef, undef, undef, undef, undef, undef, undef], defers := [] })
    (fun x a' => ownTurn_pure _ _ _)
    ?assign ?body ?done ?stop
  case assign =>
    rintro l' pre x X K hsz hI hK
    gi_wp2
    exact hK _ _ (KeepsFrom.refl _ _) (fun _ _ => rfl) hI rfl
  case body =>
    rintro l' pre ⟨⟨nm, pt⟩, hx1, hx2⟩ a' X hl' hr hsz ⟨⟨v, rn, own, rr, hb⟩, hall⟩ rfl hlt
    obtain ⟨rn0, rn1, rn2⟩ := rn.one
    obtain ⟨rr0, rr1, rr2⟩ := rr.one
    have hWs := hBW.size
    have hnm := fun Z => scopeName_any ⟨nm.toArray⟩ Z (by show nm.toArray.size ≤ _; simpa using hx1)
    have hpt := fun Z => pattern_any ⟨pt.toArray⟩ Z (by show pt.toArray.size ≤ _; simpa using hx2)
    have hd1 : (⟨nm.toArray⟩ : ByteArray).data.toList = nm := rfl
    have hd2 : (⟨pt.toArray⟩ : ByteArray).data.toList = pt := rfl
    rw [hd1] at hnm
    rw [hd2] at hpt
    simp only
    have hbad := fun X2 h2 => names_bad (B := W.heap.size) (X2 := X2) rn own rr hb h2 rfl (by omega) (by omega) (by omega) (by omega)
    have hok : okA (nm, pt) = (nameB nm && (pcsA pt).isSome) := rfl
    have HBAD := Lib.hid hbad
    have HB := Lib.hid hb
    clear hbad hb
    generalize hN : nameB nm = nn at *
    generalize hP : (pcsA pt).isSome = pp at *
    have HRN := Lib.hid rn
    have HRR := Lib.hid rr
    have HOW := Lib.hid own
    clear rn rr own
    cases nn
    · clear rn0 rn1 rn2 rr0 rr1 rr2
      gi_wp2
      refine ⟨trivial, (CallsIn.inRound l' (callsIn_wide.2 (hnm _))).mono ?_⟩
      rintro e X2 ⟨rfl, hB2⟩
      obtain ⟨rr0, rr1, rr2⟩ := (HRR.out.below hB2 HRR.out.lt).one
      gi_wp2
      refine ⟨trivial, ?_⟩
      gi_wp2
      obtain ⟨k1, k2⟩ := HBAD.out X2 hB2
      exact ⟨k1, ⟨pre, _, rfl, hall, by rw [hok]; rfl, k2⟩, rfl⟩
    · cases pp
      · clear rn0 rn1 rn2 rr0 rr1 rr2
        gi_wp2
        refine ⟨trivial, (CallsIn.inRound l' (callsIn_wide.2 (hnm _))).mono ?_⟩
        rintro e X2 ⟨rfl, hB2⟩
        gi_wp2
        refine ⟨trivial, (CallsIn.inRound l' (callsIn_wide.2 (hpt _))).mono ?_⟩
        rintro e X3 ⟨rfl, hB3⟩
        have hB3' := hB2.trans (hB3.mono hB2.size)
        obtain ⟨rr0, rr1, rr2⟩ := (HRR.out.below hB3' HRR.out.lt).one
        gi_wp2
        obtain ⟨k1, k2⟩ := HBAD.out X3 hB3'
        exact ⟨k1, ⟨pre, _, rfl, hall, by rw [hok]; rfl, k2⟩, rfl⟩
      · clear rn0 rn1 rn2 rr0 rr1 rr2
        gi_wp2
        refine ⟨trivial, (CallsIn.inRound l' (callsIn_wide.2 (hnm _))).mono ?_⟩
        rintro e X2 ⟨rfl, hB2⟩
        gi_wp2
        refine ⟨trivial, (CallsIn.inRound l' (callsIn_wide.2 (hpt _))).mono ?_⟩
        rintro e X3 ⟨rfl, hB3⟩
        have hB3' := hB2.trans (hB3.mono hB2.size)
        obtain ⟨rn0, rn1, rn2⟩ := (HRN.out.below hB3' HRN.out.lt).one
        have hownX := ownsRow_below HOW.out hB3'
        have hs3 := hB3'.size
        obtain ⟨i0, hi, hz0, hz1, hz2⟩ := info_parts (show (Tryd.prog.info? 9).map (fun i => (i.zero, i.size, i.bytes)) = some (some (.string ⟨#[]⟩), 1, 16) by kernel_rfl)
        have HI := Lib.hid hi
        gi_wp2_with (refine wpListIn_append_own _ rfl _ _ 28 rfl (W.heap.size + 6) 9 i0 (.string ⟨#[]⟩) 1 16 Tryd.underlying28 hi hz0 hz1 hz2 rfl (by decide) _ _ _ rfl (hownX.alloc _) ⟨X3.heap.size, 0, none⟩ 1 1 [nmV ⟨(nm, pt), hx1, hx2⟩] rfl rfl ?c1 ?c2 ?c3 ?c4 ?c5 ?_)
        case c1 =>
          intro j u hj
          match j, hj with
          | 0, hj =>
            simp only [List.getElem?_cons_zero, Option.some.injEq] at hj
            subst hj
            exact (RowAt.of_new X3 #[nmV ⟨(nm, pt), hx1, hx2⟩] _).cell 0 (by simp)
        case c2 => intro u hu; simp only [List.mem_singleton] at hu; subst hu; rfl
        case c3 => unfold maxLen; omega
        case c4 => omega
        case c5 => simp; omega
        intro v' Y hown' hgr _
        obtain ⟨g, cap, rfl, -, -⟩ := World.ownsRow.form hown' (by omega)
        have hBM : Below (W.heap.size + 6) X Y := ((hB3'.alloc hs3 _).mono (by omega)).grown hgr (by rw [World.size_alloc]; omega) (fun k e => (HOW.out.lt k e).1)
        obtain ⟨rn3, rn4, rn5⟩ := (HRN.out.same (hBM.block w.heap.size (by omega))).one
        have hfin := names_more (B := W.heap.size) HRN.out HOW.out HRR.out HB.out hB3' hown' hgr (by omega) rfl (by omega) (by omega) (by omega) (Nat.le_refl _)
        have HFIN := Lib.hid hfin
        clear hfin hgr hown'
        gi_wp2
        obtain ⟨k1, k2, k3⟩ := HFIN.out
        exact ⟨k1, k2, k3, by rw [List.all_append, hall]; simp [hok]⟩
  case done =>
    rintro D xs X hD rfl ⟨hNA, hall⟩ hK2
    subst hD
    have hr := termsOk_of s.data.toList _ (termsS s.data.toList hA) hall
    have hln : ((attS (splitA s.data.toList) hA).map termS).length ≤ 1000001 := by simp [attS]; omega
    have HT := tail true _ X hNA hK2 hln hr
    gi_wp2
    exact HT
  case stop =>
    rintro D c pre X hD hpre ⟨⟨q, x, rfl, hall, hx, hNA⟩, rfl⟩ hK2
    subst hD
    have hr := termsOk_bad s.data.toList _ q x (termsS s.data.toList hA) hpre hall hx
    have hln : q.length ≤ 1000001 := by
      have h1 := hpre.length_le
      simp [attS] at h1
      omega
    have HT := tail false _ X hNA hK2 hln (hr _ _)
    gi_wp2
    exact HT
end Go.Proofs.YtjhdgpboofcelaaDoor
