/- The walk of the law HistBuckets. -/
import Derived.Test.YtnoemopaplopdaaK6
import Derived.Test.YtnoemopaplopdaaN2
import Derived.Test.YtnoemopaplopdaaJO
namespace Go.Proofs.Ytnoemopaplopdaa
open Go.RowKit Go.Maps

theorem add_same {f : Int} {L : List (Int × Nat)} (h : rightL f L = true) (hf : FitM L) {v n : Nat} (hv : v < 2 ^ 64) (hn : n ≤ maxU) : putR (bucketB f v : Nat) n L = addB (L.foldl addB []) (bucketB f v, n) := by
  have hc := canon_right h hf
  obtain ⟨h1, h2⟩ := fine_bd hc.fine
  obtain ⟨m, rfl⟩ := Int.eq_ofNat_of_zero_le (a := f) h1
  rw [hc.norm, putR_addB hc (by rw [bucketB_fine (by omega)]; exact bucketN_isSome (by omega) hv) hn]
set_option maxRecDepth 100000 in
set_option maxHeartbeats 2000000 in
theorem buckets_law (f at_ h : Int) (v n : Nat) (p : Option Addr) (len cap : Nat) (L : List (Int × Nat)) (w : World) (hc : len ≤ cap) (hlen : L.length = min len 300) (hL : BinsAt w.heap.size w (.slice p L.length cap) L) (hv : v < 18446744073709551616) (hn : n < 18446744073709551616) :
    Calls Try.prog 3 #[.int .i64 f, .int .u64 v, .int .i64 at_, HistV h (.slice p len cap), .int .u64 n] w fun e w' => e = .returned (.bool true) ∧ Below w.heap.size w w' := by
  have hfew := fun W => few_hist h p len cap L.length W (by omega) (by omega)
  have hb1 := fun W => bounds_any f at_ W
  have hb2 := fun W => rbounds_any f at_ W
  rw [bndRes_eq] at hb1 hb2
  have hk1 := fun W => bucket_any f v W hv
  have hk2 := fun W => rbucket_any f v W hv
  have hr1 := fun W hb => right_any h (.slice p L.length cap) L W (hL.at_ hb)
  have hr2 := fun W hb => rright_any h (.slice p L.length cap) L W (hL.at_ hb)
  have hfit : FitM L := fun b hb => by have := (hL.1 b hb).2.2; unfold maxU; omega
  have hadd : ∃ (g : Int) (e : Int) (B : List (Int × Nat)), (∀ W, Below w.heap.size w W → Calls Try.prog 15 #[HistV h (.slice p L.length cap), .int .u64 v, .int .u64 n] W fun x w' => ∃ v', x = histRes g v' e ∧ BinsAt w'.heap.size w' v' B ∧ Below W.heap.size W w') ∧
      (∀ W, Below w.heap.size w W → Calls Try.prog 16 #[HistV h (.slice p L.length cap), .int .u64 v, .int .u64 n] W fun x w' => ∃ v', x = histRes g v' e ∧ BinsAt w'.heap.size w' v' B ∧ Below W.heap.size W w') := by
    cases hr : rightL h L
    · refine ⟨0, 90, [], fun W hb => ?_, fun W hb => ?_⟩
      · exact (hAdd_no h v n _ L W (hL.at_ hb) hr).mono fun x w' ⟨h1, h2⟩ => ⟨_, h1, binsNil _ _, h2⟩
      · exact (radd_no h v n _ L W (hL.at_ hb) hr).mono fun x w' ⟨h1, h2⟩ => ⟨_, h1, binsNil _ _, h2⟩
    · refine ⟨h, 0, _, fun W hb => hAdd_yes h v n _ L W (hL.at_ hb) hr hv hn (by omega), fun W hb => ?_⟩
      have := radd_yes h v n _ L W (hL.at_ hb) hr hv hn (by omega)
      rwa [add_same hr hfit hv (by unfold maxU; omega)] at this
  obtain ⟨g0, e0, B, ha1, ha2⟩ := hadd
  have hs : ∀ y z W, BinsAt W.heap.size W y B → BinsAt W.heap.size W z B → Calls Try.prog 21 #[HistV g0 y, HistV g0 z] W fun e w' => e = .returned (.bool true) ∧ Below W.heap.size W w' := fun y z W hy hz => by
    have := rsame_any g0 g0 y z _ _ W hy hz
    rwa [show sameH g0 g0 B B = true by simp [sameH]] at this
  generalize boundsB f at_ = o at *
  generalize bLo o = lo at *
  generalize bHi o = hi at *
  generalize o.isSome = ok at *
  generalize (bucketB f v) = bk at *
  generalize rightL h L = rb at *
  clear hlen hc
  go_enter Try.func3, Try.ntmps3
  go_wp2_with fail
  with_reducible refine Calls.mono (Calls.gr0 (shown_any _)) ?_
  rintro e w' ⟨rfl, g, rfl⟩
  have hgl := g.le
  try simp only [World.size_alloc] at hgl
  try simp only [World.size_setCell] at hgl
  go_wp2_with fail
  with_reducible refine Calls.mono (Calls.gr (hfew _)) ?_
  rintro e w' ⟨rfl, g, rfl⟩
  have hgl := g.le
  try simp only [World.size_alloc] at hgl
  try simp only [World.size_setCell] at hgl
  go_wp2_with fail
  refine Calls.named (fun V hV => ?_)
  have hBV : Below w.heap.size w V := by rw [hV]; exact (by repeat (first | exact Below.refl _ _ | assumption | (refine Below.setCell ?_ (by (first | omega | (simp; done) | (simp; omega) | (simp at *; omega))) _) | (refine Below.alloc ?_ (by (first | omega | (simp; done) | (simp; omega) | (simp at *; omega))) _) | (refine Below.drew ?_) | (refine Gr.into _ ?_ (by (first | omega | (simp; done) | (simp; omega) | (simp at *; omega))))))
  have x : RowAt V w.heap.size 25 [.int .i64 h, .slice p L.length cap] := by rw [hV]; exact (((RowAt.new_at w #[.int .i64 h, .slice p len cap] 25 w.heap.size rfl).gr g).set 0 _).set 1 _
  clear hV
  obtain ⟨xc0, xc1, xf0, xf1, xl⟩ := x.two
  clear hgl g
  have hVs := hBV.size
  with_reducible refine Calls.mono (Calls.gr0 (hb1 _)) ?_
  rintro e w' ⟨rfl, g, rfl⟩
  have hgl := g.le
  try simp only [World.size_alloc] at hgl
  try simp only [World.size_setCell] at hgl
  go_wp2_with fail
  with_reducible refine Calls.mono (Calls.gr (hb2 _)) ?_
  rintro e w' ⟨rfl, g, rfl⟩
  have hgl := g.le
  try simp only [World.size_alloc] at hgl
  try simp only [World.size_setCell] at hgl
  go_wp2_with fail
  refine Calls.mono (ha1 _ (hBV.trans (g.below.mono hVs))) ?_
  rintro e w3 ⟨v1, rfl, hv1, hd1⟩
  have hE1 : Below V.heap.size V w3 := g.below.trans (hd1.mono g.le)
  clear hd1 hgl g
  have x3 := x.below hE1 xl
  have hEs1 := hE1.size
  obtain ⟨x3c0, x3c1, x3f0, x3f1, x3l⟩ := x3.two
  obtain ⟨p1, q1, he1, -⟩ := hv1.form
  subst he1
  go_wp2_with fail
  refine Calls.named (fun C hC => ?_)
  have hBC : Below w3.heap.size w3 C := by rw [hC]; exact (by repeat (first | exact Below.refl _ _ | assumption | (refine Below.setCell ?_ (by (first | omega | (simp; done) | (simp; omega) | (simp at *; omega))) _) | (refine Below.alloc ?_ (by (first | omega | (simp; done) | (simp; omega) | (simp at *; omega))) _) | (refine Below.drew ?_) | (refine Gr.into _ ?_ (by (first | omega | (simp; done) | (simp; omega) | (simp at *; omega))))))
  have x4 : RowAt C (w.heap.size) 25 [.int .i64 h, .slice p L.length cap] := by rw [hC]; exact (by repeat (first | assumption | exact RowAt.new_at _ _ _ _ (by (first | omega | (simp; done) | (simp; omega) | (simp at *; omega))) | (refine RowAt.alloc ?_ _) | (refine RowAt.gr ?_ _) | (refine RowAt.setOther ?_ _ _ (by (first | omega | (simp; done) | (simp; omega) | (simp at *; omega)))) | (refine RowAt.drew ?_)))
  have y4 : RowAt C (w3.heap.size) 25 [.int .i64 g0, .slice p1 B.length q1] := by rw [hC]; exact (by repeat (first | assumption | exact RowAt.new_at _ _ _ _ (by (first | omega | (simp; done) | (simp; omega) | (simp at *; omega))) | (refine RowAt.alloc ?_ _) | (refine RowAt.gr ?_ _) | (refine RowAt.setOther ?_ _ _ (by (first | omega | (simp; done) | (simp; omega) | (simp at *; omega)))) | (refine RowAt.drew ?_)))
  clear hC
  obtain ⟨x4c0, x4c1, x4f0, x4f1, x4l⟩ := x4.two
  obtain ⟨y4c0, y4c1, y4f0, y4f1, y4l⟩ := y4.two
  have hv1C := hv1.at_ hBC
  have hwC : Below w.heap.size w C := hBV.trans ((hE1.mono hVs).trans (hBC.mono (by omega)))
  refine Calls.mono (ha2 _ hwC) ?_
  rintro e w5 ⟨v2, rfl, hv2, hd2⟩
  have x6 := x4.below hd2 x4l
  have y6 := y4.below hd2 y4l
  have hv1D := hv1C.at_ hd2
  have hsC := hwC.size
  have hw5 : Below w.heap.size w w5 := hwC.trans (hd2.mono hsC)
  have hs5 := hw5.size
  obtain ⟨x6c0, x6c1, x6f0, x6f1, x6l⟩ := x6.two
  obtain ⟨y6c0, y6c1, y6f0, y6f1, y6l⟩ := y6.two
  obtain ⟨p2, q2, he2, -⟩ := hv2.form
  subst he2
  go_wp2_with fail
  refine wp_named (fun T hT => ?_)
  have hBT : Below w5.heap.size w5 T := by rw [hT]; exact (by repeat (first | exact Below.refl _ _ | assumption | (refine Below.setCell ?_ (by (first | omega | (simp; done) | (simp; omega) | (simp at *; omega))) _) | (refine Below.alloc ?_ (by (first | omega | (simp; done) | (simp; omega) | (simp at *; omega))) _) | (refine Below.drew ?_) | (refine Gr.into _ ?_ (by (first | omega | (simp; done) | (simp; omega) | (simp at *; omega))))))
  have x7 : RowAt T (w.heap.size) 25 [.int .i64 h, .slice p L.length cap] := by rw [hT]; exact (by repeat (first | assumption | exact RowAt.new_at _ _ _ _ (by (first | omega | (simp; done) | (simp; omega) | (simp at *; omega))) | (refine RowAt.alloc ?_ _) | (refine RowAt.gr ?_ _) | (refine RowAt.setOther ?_ _ _ (by (first | omega | (simp; done) | (simp; omega) | (simp at *; omega)))) | (refine RowAt.drew ?_)))
  have y7 : RowAt T (w3.heap.size) 25 [.int .i64 g0, .slice p1 B.length q1] := by rw [hT]; exact (by repeat (first | assumption | exact RowAt.new_at _ _ _ _ (by (first | omega | (simp; done) | (simp; omega) | (simp at *; omega))) | (refine RowAt.alloc ?_ _) | (refine RowAt.gr ?_ _) | (refine RowAt.setOther ?_ _ _ (by (first | omega | (simp; done) | (simp; omega) | (simp at *; omega)))) | (refine RowAt.drew ?_)))
  have z7 : RowAt T (w5.heap.size) 25 [.int .i64 g0, .slice p2 B.length q2] := by rw [hT]; exact (by repeat (first | assumption | exact RowAt.new_at _ _ _ _ (by (first | omega | (simp; done) | (simp; omega) | (simp at *; omega))) | (refine RowAt.alloc ?_ _) | (refine RowAt.gr ?_ _) | (refine RowAt.setOther ?_ _ _ (by (first | omega | (simp; done) | (simp; omega) | (simp at *; omega)))) | (refine RowAt.drew ?_)))
  clear hT
  obtain ⟨x7c0, x7c1, x7f0, x7f1, x7l⟩ := x7.two
  obtain ⟨y7c0, y7c1, y7f0, y7f1, y7l⟩ := y7.two
  obtain ⟨z7c0, z7c1, z7f0, z7f1, z7l⟩ := z7.two
  have hwT : Below w.heap.size w T := hw5.trans (hBT.mono hs5)
  have hy7 := hv1D.at_ hBT
  have hz7 := hv2.at_ hBT
  have hr1' : ∀ g : Gr T, Calls Try.prog 19 #[HistV h (.slice p L.length cap)] g.world fun e w' => e = .returned (.bool rb) ∧ Below g.world.heap.size g.world w' := fun g => hr1 _ (hwT.trans (g.below.mono hwT.size))
  have hr2' : ∀ g : Gr T, Calls Try.prog 20 #[HistV h (.slice p L.length cap)] g.world fun e w' => e = .returned (.bool rb) ∧ Below g.world.heap.size g.world w' := fun g => hr2 _ (hwT.trans (g.below.mono hwT.size))
  have hs' : ∀ g : Gr T, Calls Try.prog 21 #[HistV g0 (.slice p1 B.length q1), HistV g0 (.slice p2 B.length q2)] g.world fun e w' => e = .returned (.bool true) ∧ Below g.world.heap.size g.world w' := fun g => hs _ _ _ (hy7.at_ g.below) (hz7.at_ g.below)
  clear hr1 hr2 hs ha1 ha2 hb1 hb2 hfew
  refine wp_region_gr (by kernel_rfl) (by kernel_rfl) ?_
  repeat (go_big_quiet_step (first | (go_at_call 17; exact Calls.gr (hk1 _)) | (go_at_call 18; exact Calls.gr (hk2 _)) | (go_at_call 19; exact Calls.gr (hr1' _)) | (go_at_call 20; exact Calls.gr (hr2' _)) | (go_at_call 21; exact Calls.gr (hs' _))))
  refine wpQuiet_nil ?_
  intro g2
  go_wp2
  go_ret
  exact ⟨by first | rfl | (simp; done) | (simp; omega), hwT.trans (g2.below.mono hwT.size)⟩
end Go.Proofs.Ytnoemopaplopdaa
