/- Layer 5: ScopeTerms, its walk. -/
import Derived.Test.YtjhdgpboofcelaaDoorSP
import Derived.Test.YtjhdgpboofcelaaDoorE4
namespace Go.Proofs.YtjhdgpboofcelaaDoor
open Go.RowKit
attribute [local go_sem] Oper.semAt_some

/-- Texts that came in. -/
def TextsAt (w : World) (p : Option Addr) (len : Nat) (Z : Nat → ByteArray) : Prop :=
  (∀ i, i < len → (Z i).size ≤ maxLen) ∧ (0 < len → ∃ x : Addr, p = some x ∧ x.block < w.heap.size ∧ ∀ i, i < len → w.cell? (x.add i) = some (.string (Z i)))
set_option maxRecDepth 100000 in
set_option maxHeartbeats 2000000 in
theorem scopeTerms_law (p : Option Addr) (len cap : Nat) (Z : Nat → ByteArray) (p2 : Option Addr) (len2 cap2 : Nat) (J : List BLab) (w : World) (hlen : len ≤ cap) (hcap : cap ≤ maxLen) (hT : TextsAt w p len Z) (hn : J.length = min len2 10) (hc : CameAt w p2 J) :
    Calls Tryd.prog 4 #[.slice p len cap, .slice p2 len2 cap2] w fun e w' => e = .returned (.bool true) ∧ Below w.heap.size w w' := by
  have hS := shown5_any w
  have hF : ∀ W, Below w.heap.size w W → Calls Tryd.prog 9 #[.slice p2 len2 cap2] W fun e w' => Below W.heap.size W w' ∧ ∃ v, e = .returned v ∧ LabelsAt w'.heap.size w' v (J.map cutLab) := fun W hb => few_any p2 len2 cap2 J W hn (came_below hc hb)
  have hsz : ∀ x ∈ J.map cutLab, x.2.size ≤ 10000 := fun x hx => by
    obtain ⟨y, -, rfl⟩ := List.mem_map.1 hx
    have := (cutLab_size y).2
    omega
  generalize J.map cutLab = L at *
  clear hn hc
  go_enter Tryd.func4, Tryd.ntmps4
  go_wp2_with fail
  refine hS.mono ?_
  rintro e w1 ⟨rfl, hB1⟩
  go_wp2_with fail
  refine (hF _ hB1).mono ?_
  rintro e w2 ⟨hB2, v, rfl, hL⟩
  have hBW : Below w.heap.size w w2 := hB1.trans (hB2.mono hB1.size)
  obtain ⟨lp, lcap, rfl, -⟩ := (hL.form).2
  clear hB1 hB2 hF hS
  go_wp2_with fail
  have hLW := fun W (hb : Below w2.heap.size w2 W) => hL.at_ hb
  have hWs := hBW.size
  go_loopw [6, 7, 8] (fun sv av iv wr => ∃ (k : Nat) (S : ByteArray) (all : Bool), sv = .string S ∧ av = .bool all ∧ iv = .int .i64 k ∧ k ≤ 4 ∧ k ≤ len ∧ S.size ≤ 101 * k ∧ Gathered L S.data.toList all ∧ Below w2.heap.size w2 wr)
    (fun _ _ iv _ => 5 - (intOf iv).toNat)
  case atStart => exact ⟨0, ⟨#[]⟩, true, rfl, rfl, rfl, by omega, by omega, by decide, gathered_start L, Below.refl _ _⟩
  case round =>
    rename_i wr
    obtain ⟨k, S, all, rfl, rfl, rfl, hk4, hkl, hSs, hG, hB⟩ := hrel
    have hBs := hB.size
    have hLr := fun W (hb : Below wr.heap.size wr W) => hLW W (hB.trans (hb.mono hBs))
    by_cases hlt : k < len
    · by_cases hlt4 : k < 4
      · have hli : (k : Int) < len := by omega
        have hli4 : (k : Int) < 4 := by omega
        obtain ⟨x, rfl, hxb, hcells⟩ := hT.2 (by omega)
        have hc0 := hcells k hlt
        have hxa : (x.add k).block = x.block := by
          unfold Addr.add
          split <;> rfl
        have hc : wr.cell? (x.add k) = some (.string (Z k)) := by
          rw [hB.cell (p := x.add k) (by rw [hxa]; omega), hBW.cell (p := x.add k) (by rw [hxa]; exact hxb)]
          exact hc0
        have hxb2 : (x.add k).block < wr.heap.size := by rw [hxa]; omega
        clear hxa
        have hTs : ((Z k).extract 0 (min ((Z k).size : Int) 100).toNat).size ≤ 100 := by rw [ByteArray.size_extract]; omega
        have hM := fun W (hb : Below wr.heap.size wr W) => means_any ((Z k).extract 0 (min ((Z k).size : Int) 100).toNat) _ L W (by omega) (hLr W hb) hsz
        obtain ⟨T, hTT⟩ : ∃ T, (Z k).extract 0 (min ((Z k).size : Int) 100).toNat = T := ⟨_, rfl⟩
        rw [hTT] at hM hTs
        rcases hme : meansA T.data.toList L with ⟨b, e⟩
        rw [hme] at hM
        clear hcells hc0 hLr
        by_cases hS0 : S.data.toList = []
        · have hSe : S.toList.isEmpty = true := by rw [Lib.toList_data, hS0]; rfl
          have hNs : (T).size ≤ 1000000 := by omega
          have hNd : (T).data.toList = nextA S.data.toList T.data.toList := by unfold nextA; rw [hS0]; rfl
          have hR := fun W => scopeRight_any (T) W hNs
          rw [hNd] at hR
          have HND := Lib.hid hNd
          clear hNd
          by_cases hT0 : T.data.toList = []
          · have hTe : T.toList.isEmpty = true := by rw [Lib.toList_data, hT0]; rfl
            go_wp2
            refine wp_region_gr (by kernel_rfl) (by kernel_rfl) ?_
            repeat (go_big_quiet_step (first | fail))
            refine wpQuiet_nil ?_
            intro g
            have hgl := g.le
            go_wp2_with fail
            refine (hM _ g.below).mono ?_
            rintro e w5 ⟨rfl, hB5⟩
            have hBm : Below w2.heap.size w2 w5 := (hB.trans (g.below.mono hBs)).trans (hB5.mono (by omega))
            simp only [MeansV]
            go_wp2_with fail
            go_roundw
            case rel => exact ⟨k + 1, S, all, rfl, rfl, by go_num, by omega, by omega, by omega, hG, hBm⟩
            case measure => simp [intOf]; omega
          · have hTe : T.toList.isEmpty = false := by rw [Lib.toList_data]; simpa using hT0
            by_cases he : e = 0
            · subst he
              have hmore := fun h => gathered_more hG hT0 (by rw [hme]) h
              rw [hme] at hmore
              have hls : (T).size ≤ 101 * (k + 1) := by omega
              obtain ⟨r, hr⟩ : ∃ r, rightSA (nextA S.data.toList T.data.toList) = r := ⟨_, rfl⟩
              rw [hr] at hR
              have HM := Lib.hid hmore
              have HR := Lib.hid hr
              clear hmore hr hme hT0
              cases r
              · go_wp2
                refine wp_region_gr (by kernel_rfl) (by kernel_rfl) ?_
                repeat (go_big_quiet_step (first | fail))
                refine wpQuiet_nil ?_
                intro g
                have hgl := g.le
                go_wp2_with fail
                refine (hM _ g.below).mono ?_
                rintro e w5 ⟨rfl, hB5⟩
                have hBm : Below w2.heap.size w2 w5 := (hB.trans (g.below.mono hBs)).trans (hB5.mono (by omega))
                simp only [MeansV]
                go_wp2_with fail
                refine (hR _).mono ?_
                rintro e w6 ⟨rfl, hB6⟩
                have hB6' := hBm.trans (hB6.mono hBm.size)
                go_wp2_with fail
                go_roundw
                case rel => exact ⟨k + 1, S, all, rfl, rfl, by go_num, by omega, by omega, by omega, hG, hB6'⟩
                case measure => simp [intOf]; omega
              · go_wp2
                refine wp_region_gr (by kernel_rfl) (by kernel_rfl) ?_
                repeat (go_big_quiet_step (first | fail))
                refine wpQuiet_nil ?_
                intro g
                have hgl := g.le
                go_wp2_with fail
                refine (hM _ g.below).mono ?_
                rintro e w5 ⟨rfl, hB5⟩
                have hBm : Below w2.heap.size w2 w5 := (hB.trans (g.below.mono hBs)).trans (hB5.mono (by omega))
                simp only [MeansV]
                go_wp2_with fail
                refine (hR _).mono ?_
                rintro e w6 ⟨rfl, hB6⟩
                have hB6' := hBm.trans (hB6.mono hBm.size)
                cases all
                · go_wp2_with fail
                  go_roundw
                  case rel => exact ⟨k + 1, T, (false && b), rfl, rfl, by go_num, by omega, by omega, hls, by rw [HND.out]; exact HM.out HR.out, hB6'⟩
                  case measure => simp [intOf]; omega
                · go_wp2_with fail
                  go_roundw
                  case rel => exact ⟨k + 1, T, (true && b), rfl, rfl, by go_num, by omega, by omega, hls, by rw [HND.out]; exact HM.out HR.out, hB6'⟩
                  case measure => simp [intOf]; omega
            · have hne0 : (e == 0) = false := by simpa using he
              clear hme
              go_wp2
              refine wp_region_gr (by kernel_rfl) (by kernel_rfl) ?_
              repeat (go_big_quiet_step (first | fail))
              refine wpQuiet_nil ?_
              intro g
              have hgl := g.le
              go_wp2_with fail
              refine (hM _ g.below).mono ?_
              rintro e w5 ⟨rfl, hB5⟩
              have hBm : Below w2.heap.size w2 w5 := (hB.trans (g.below.mono hBs)).trans (hB5.mono (by omega))
              simp only [MeansV]
              go_wp2_with fail
              go_roundw
              case rel => exact ⟨k + 1, S, all, rfl, rfl, by go_num, by omega, by omega, by omega, hG, hBm⟩
              case measure => simp [intOf]; omega
        · have hSe : S.toList.isEmpty = false := by rw [Lib.toList_data]; simpa using hS0
          have hNs : (S ++ ⟨#[59]⟩ ++ T).size ≤ 1000000 := by rw [ByteArray.size_append, ByteArray.size_append]; show _ + 1 + _ ≤ _; omega
          have hNd : (S ++ ⟨#[59]⟩ ++ T).data.toList = nextA S.data.toList T.data.toList := by unfold nextA; rw [if_neg (by simpa using hS0)]; simp
          have hR := fun W => scopeRight_any (S ++ ⟨#[59]⟩ ++ T) W hNs
          rw [hNd] at hR
          have HND := Lib.hid hNd
          clear hNd
          by_cases hT0 : T.data.toList = []
          · have hTe : T.toList.isEmpty = true := by rw [Lib.toList_data, hT0]; rfl
            go_wp2
            refine wp_region_gr (by kernel_rfl) (by kernel_rfl) ?_
            repeat (go_big_quiet_step (first | fail))
            refine wpQuiet_nil ?_
            intro g
            have hgl := g.le
            go_wp2_with fail
            refine (hM _ g.below).mono ?_
            rintro e w5 ⟨rfl, hB5⟩
            have hBm : Below w2.heap.size w2 w5 := (hB.trans (g.below.mono hBs)).trans (hB5.mono (by omega))
            simp only [MeansV]
            go_wp2_with fail
            go_roundw
            case rel => exact ⟨k + 1, S, all, rfl, rfl, by go_num, by omega, by omega, by omega, hG, hBm⟩
            case measure => simp [intOf]; omega
          · have hTe : T.toList.isEmpty = false := by rw [Lib.toList_data]; simpa using hT0
            by_cases he : e = 0
            · subst he
              have hmore := fun h => gathered_more hG hT0 (by rw [hme]) h
              rw [hme] at hmore
              have hls : (S ++ ⟨#[59]⟩ ++ T).size ≤ 101 * (k + 1) := by rw [ByteArray.size_append, ByteArray.size_append]; show _ + 1 + _ ≤ _; omega
              obtain ⟨r, hr⟩ : ∃ r, rightSA (nextA S.data.toList T.data.toList) = r := ⟨_, rfl⟩
              rw [hr] at hR
              have HM := Lib.hid hmore
              have HR := Lib.hid hr
              clear hmore hr hme hT0
              cases r
              · go_wp2
                refine wp_region_gr (by kernel_rfl) (by kernel_rfl) ?_
                repeat (go_big_quiet_step (first | fail))
                refine wpQuiet_nil ?_
                intro g
                have hgl := g.le
                go_wp2_with fail
                refine (hM _ g.below).mono ?_
                rintro e w5 ⟨rfl, hB5⟩
                have hBm : Below w2.heap.size w2 w5 := (hB.trans (g.below.mono hBs)).trans (hB5.mono (by omega))
                simp only [MeansV]
                go_wp2_with fail
                refine (hR _).mono ?_
                rintro e w6 ⟨rfl, hB6⟩
                have hB6' := hBm.trans (hB6.mono hBm.size)
                go_wp2_with fail
                go_roundw
                case rel => exact ⟨k + 1, S, all, rfl, rfl, by go_num, by omega, by omega, by omega, hG, hB6'⟩
                case measure => simp [intOf]; omega
              · go_wp2
                refine wp_region_gr (by kernel_rfl) (by kernel_rfl) ?_
                repeat (go_big_quiet_step (first | fail))
                refine wpQuiet_nil ?_
                intro g
                have hgl := g.le
                go_wp2_with fail
                refine (hM _ g.below).mono ?_
                rintro e w5 ⟨rfl, hB5⟩
                have hBm : Below w2.heap.size w2 w5 := (hB.trans (g.below.mono hBs)).trans (hB5.mono (by omega))
                simp only [MeansV]
                go_wp2_with fail
                refine (hR _).mono ?_
                rintro e w6 ⟨rfl, hB6⟩
                have hB6' := hBm.trans (hB6.mono hBm.size)
                cases all
                · go_wp2_with fail
                  go_roundw
                  case rel => exact ⟨k + 1, S ++ ⟨#[59]⟩ ++ T, (false && b), rfl, rfl, by go_num, by omega, by omega, hls, by rw [HND.out]; exact HM.out HR.out, hB6'⟩
                  case measure => simp [intOf]; omega
                · go_wp2_with fail
                  go_roundw
                  case rel => exact ⟨k + 1, S ++ ⟨#[59]⟩ ++ T, (true && b), rfl, rfl, by go_num, by omega, by omega, hls, by rw [HND.out]; exact HM.out HR.out, hB6'⟩
                  case measure => simp [intOf]; omega
            · have hne0 : (e == 0) = false := by simpa using he
              clear hme
              go_wp2
              refine wp_region_gr (by kernel_rfl) (by kernel_rfl) ?_
              repeat (go_big_quiet_step (first | fail))
              refine wpQuiet_nil ?_
              intro g
              have hgl := g.le
              go_wp2_with fail
              refine (hM _ g.below).mono ?_
              rintro e w5 ⟨rfl, hB5⟩
              have hBm : Below w2.heap.size w2 w5 := (hB.trans (g.below.mono hBs)).trans (hB5.mono (by omega))
              simp only [MeansV]
              go_wp2_with fail
              go_roundw
              case rel => exact ⟨k + 1, S, all, rfl, rfl, by go_num, by omega, by omega, by omega, hG, hBm⟩
              case measure => simp [intOf]; omega
      · obtain rfl : k = 4 := by omega
        have hli : (4 : Int) < len := by omega
        have hE := gathered_end hG
        have hMS := means_any S _ L wr (by omega) (hLr wr (Below.refl _ _)) hsz
        have hRL := fun W (hb : Below wr.heap.size wr W) => right_any (.slice lp L.length lcap) L W (hLr W hb)
        rw [hE] at hMS
        clear hE hG
        cases hrl : rightA L
        · rw [hrl] at hMS hRL
          simp only [Bool.false_eq_true, if_false, MeansV] at hMS
          clear hrl
          cases all
          · go_wp2_with fail
            refine hMS.mono ?_
            rintro e w5 ⟨rfl, hB5⟩
            go_wp2_with fail
            refine (hRL _ hB5).mono ?_
            rintro e w6 ⟨rfl, hB6⟩
            have h5 := hB5.size
            go_wp2_with fail
            go_ret
            exact ⟨rfl, ((hBW.trans (hB.mono hWs)).trans (hB5.mono (by omega))).trans (hB6.mono (by omega))⟩
          · go_wp2_with fail
            refine hMS.mono ?_
            rintro e w5 ⟨rfl, hB5⟩
            go_wp2_with fail
            refine (hRL _ hB5).mono ?_
            rintro e w6 ⟨rfl, hB6⟩
            have h5 := hB5.size
            go_wp2_with fail
            go_ret
            exact ⟨rfl, ((hBW.trans (hB.mono hWs)).trans (hB5.mono (by omega))).trans (hB6.mono (by omega))⟩
        · rw [hrl] at hMS hRL
          simp only [if_true, MeansV] at hMS
          clear hrl
          cases all
          · go_wp2_with fail
            refine hMS.mono ?_
            rintro e w5 ⟨rfl, hB5⟩
            go_wp2_with fail
            refine (hRL _ hB5).mono ?_
            rintro e w6 ⟨rfl, hB6⟩
            have h5 := hB5.size
            go_wp2_with fail
            go_ret
            exact ⟨rfl, ((hBW.trans (hB.mono hWs)).trans (hB5.mono (by omega))).trans (hB6.mono (by omega))⟩
          · go_wp2_with fail
            refine hMS.mono ?_
            rintro e w5 ⟨rfl, hB5⟩
            go_wp2_with fail
            refine (hRL _ hB5).mono ?_
            rintro e w6 ⟨rfl, hB6⟩
            have h5 := hB5.size
            go_wp2_with fail
            go_ret
            exact ⟨rfl, ((hBW.trans (hB.mono hWs)).trans (hB5.mono (by omega))).trans (hB6.mono (by omega))⟩
    · obtain rfl : k = len := by omega
      have hE := gathered_end hG
      have hMS := means_any S _ L wr (by omega) (hLr wr (Below.refl _ _)) hsz
      have hRL := fun W (hb : Below wr.heap.size wr W) => right_any (.slice lp L.length lcap) L W (hLr W hb)
      rw [hE] at hMS
      clear hE hG
      cases hrl : rightA L
      · rw [hrl] at hMS hRL
        simp only [Bool.false_eq_true, if_false, MeansV] at hMS
        clear hrl
        cases all
        · go_wp2_with fail
          refine hMS.mono ?_
          rintro e w5 ⟨rfl, hB5⟩
          go_wp2_with fail
          refine (hRL _ hB5).mono ?_
          rintro e w6 ⟨rfl, hB6⟩
          have h5 := hB5.size
          go_wp2_with fail
          go_ret
          exact ⟨rfl, ((hBW.trans (hB.mono hWs)).trans (hB5.mono (by omega))).trans (hB6.mono (by omega))⟩
        · go_wp2_with fail
          refine hMS.mono ?_
          rintro e w5 ⟨rfl, hB5⟩
          go_wp2_with fail
          refine (hRL _ hB5).mono ?_
          rintro e w6 ⟨rfl, hB6⟩
          have h5 := hB5.size
          go_wp2_with fail
          go_ret
          exact ⟨rfl, ((hBW.trans (hB.mono hWs)).trans (hB5.mono (by omega))).trans (hB6.mono (by omega))⟩
      · rw [hrl] at hMS hRL
        simp only [if_true, MeansV] at hMS
        clear hrl
        cases all
        · go_wp2_with fail
          refine hMS.mono ?_
          rintro e w5 ⟨rfl, hB5⟩
          go_wp2_with fail
          refine (hRL _ hB5).mono ?_
          rintro e w6 ⟨rfl, hB6⟩
          have h5 := hB5.size
          go_wp2_with fail
          go_ret
          exact ⟨rfl, ((hBW.trans (hB.mono hWs)).trans (hB5.mono (by omega))).trans (hB6.mono (by omega))⟩
        · go_wp2_with fail
          refine hMS.mono ?_
          rintro e w5 ⟨rfl, hB5⟩
          go_wp2_with fail
          refine (hRL _ hB5).mono ?_
          rintro e w6 ⟨rfl, hB6⟩
          have h5 := hB5.size
          go_wp2_with fail
          go_ret
          exact ⟨rfl, ((hBW.trans (hB.mono hWs)).trans (hB5.mono (by omega))).trans (hB6.mono (by omega))⟩
end Go.Proofs.YtjhdgpboofcelaaDoor
