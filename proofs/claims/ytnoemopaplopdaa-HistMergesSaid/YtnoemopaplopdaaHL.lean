/- Package hist: Add. -/
import Derived.Test.YtnoemopaplopdaaHK
namespace Go.Proofs.Ytnoemopaplopdaa
open Go.RowKit Go.Maps

theorem BinsAt.good {B : Nat} {w : World} {v : Value} {L : List (Int × Nat)} (h : BinsAt B w v L) : Good (L.foldl addB []) := Good.nil.addBs fun b hb => ⟨(h.1 b hb).1, (h.1 b hb).2.1⟩
theorem BinsAt.setOther {B : Nat} {w : World} {v : Value} {L : List (Int × Nat)} (h : BinsAt B w v L) (p : Addr) (u : Value) (hp : ∀ k, v.ownBlock = some k → p.block ≠ k) : BinsAt B (w.setCell p u) v L := by
  obtain ⟨h1, h2, h3⟩ := h
  refine ⟨h1, h2, h3.imp id ?_⟩
  rintro ⟨a, off, cap, rfl, h5, hc, h6⟩
  have hne := hp a rfl
  exact ⟨a, off, cap, rfl, h5, hc, fun i hi => by
    rw [World.cell?_of_block (a := ⟨a, off + i * 2, none⟩) (Below.heap_setCell w p u a (Ne.symm hne)), World.cell?_of_block (a := ⟨a, off + i * 2 + 1, none⟩) (Below.heap_setCell w p u a (Ne.symm hne))]; exact h6 i hi⟩
theorem hAdd_no (f x n : Int) (v : Value) (L : List (Int × Nat)) (w : World) (hL : BinsAt w.heap.size w v L) (h : rightL f L = false) :
    Calls Try.prog 15 #[HistV f v, .int .u64 x, .int .u64 n] w fun e w' => e = histRes 0 (.slice none 0 0) 90 ∧ Below w.heap.size w w' := by
  have hS : ∀ W, Below w.heap.size w W → Calls Try.prog 37 #[HistV f v] W fun e w' => e = .returned (.tuple #[.pointer none, .iface 73 (.agg #[])]) ∧ Below W.heap.size W w' := fun W hb => start_no f v L W (hL.at_ hb) h
  go_enter Try.func15, Try.ntmps15
  go_wp2_with fail
  with_reducible refine Calls.mono (Calls.gr0 (hS _ (by repeat (first | exact Below.refl _ _ | assumption | (refine Below.setCell ?_ (by (first | omega | (simp; done) | (simp; omega) | (simp at *; omega))) _) | (refine Below.alloc ?_ (by (first | omega | (simp; done) | (simp; omega) | (simp at *; omega))) _) | (refine Below.drew ?_) | (refine Gr.into _ ?_ (by (first | omega | (simp; done) | (simp; omega) | (simp at *; omega)))))))) ?_
  rintro e w' ⟨rfl, g, rfl⟩
  have hgl := g.le
  try simp only [World.size_alloc] at hgl
  try simp only [World.size_setCell] at hgl
  go_wp2_with fail
  with_reducible refine Calls.mono (Calls.gr (told_wrong _)) ?_
  rintro e w' ⟨rfl, g, rfl⟩
  have hgl := g.le
  try simp only [World.size_alloc] at hgl
  try simp only [World.size_setCell] at hgl
  go_wp2_with fail
  exact bodyPost_ret (v := .tuple #[HistV 0 (.slice none 0 0), .int .i64 90]) (by simp [results, Try.results15, go_sem]) rfl ⟨rfl, (by repeat (first | exact Below.refl _ _ | assumption | (refine Below.setCell ?_ (by (first | omega | (simp; done) | (simp; omega) | (simp at *; omega))) _) | (refine Below.alloc ?_ (by (first | omega | (simp; done) | (simp; omega) | (simp at *; omega))) _) | (refine Below.drew ?_) | (refine Gr.into _ ?_ (by (first | omega | (simp; done) | (simp; omega) | (simp at *; omega))))))⟩
theorem bucketB_bd (f : Int) (x : Nat) (hx : x < 2 ^ 64) : bucketB f x ≤ 512 := by
  unfold bucketB
  split
  · rename_i h
    obtain ⟨h1, h2⟩ := fine_bd h
    have h3 : f.toNat ≤ 3 := by omega
    have := bucketN_bd (f := f.toNat) hx h3
    rcases four h3 with h | h | h | h <;> rw [h] at this ⊢ <;> omega
  · omega
set_option maxRecDepth 100000 in
set_option maxHeartbeats 1000000 in
theorem hAdd_fresh (f : Int) (x n : Nat) (v : Value) (L : List (Int × Nat)) (w : World) (hL : BinsAt w.heap.size w v L) (h : rightL f L = true) (hx : x < 2 ^ 64) (hn : n < 18446744073709551616) (hlen : L.length ≤ 1000000000000) :
    Calls Try.prog 15 #[HistV f v, .int .u64 x, .int .u64 n] w fun e w' => ∃ v', e = histRes f v' 0 ∧ BinsAt w'.heap.size w' v' (addB (L.foldl addB []) (bucketB f x, n)) ∧ Below w.heap.size w w' ∧ ∀ k, v'.ownBlock = some k → w.heap.size + 2 ≤ k := by
  have hG := hL.good
  have hlen2 := addBs_length L []
  simp only [List.length_nil, Nat.zero_add] at hlen2
  go_enter Try.func15, Try.ntmps15
  go_wp2_with fail
  refine Calls.mono (start_yes f v L _ (hL.at_ (by repeat (first | exact Below.refl _ _ | assumption | (refine Below.setCell ?_ (by (first | omega | (simp; done) | (simp; omega) | (simp at *; omega))) _) | (refine Below.alloc ?_ (by (first | omega | (simp; done) | (simp; omega) | (simp at *; omega))) _) | (refine Below.drew ?_) | (refine Gr.into _ ?_ (by (first | omega | (simp; done) | (simp; omega) | (simp at *; omega))))))) h) ?_
  rintro e w2 ⟨bw, bm, rfl, hbw, hbm, hC, hr, hb⟩
  generalize hM : L.foldl addB [] = M at *
  simp only [World.size_alloc] at hb hbw hbm
  have xr : RowAt w2 w.heap.size 25 [.int .i64 f, v] := ((RowAt.new_at w #[.int .i64 f, v] 25 w.heap.size rfl).alloc _).below hb (by omega)
  have rr : RowAt w2 (w.heap.size + 1) 25 [.int .i64 0, .slice none 0 0] := (RowAt.new_at (w.alloc (.cells #[.int .i64 f, v] 25)) #[.int .i64 0, .slice none 0 0] 25 (w.heap.size + 1) (by simp)).below hb (by omega)
  have hb0 : Below w.heap.size w w2 := Below.trans (by repeat (first | exact Below.refl _ _ | assumption | (refine Below.setCell ?_ (by (first | omega | (simp; done) | (simp; omega) | (simp at *; omega))) _) | (refine Below.alloc ?_ (by (first | omega | (simp; done) | (simp; omega) | (simp at *; omega))) _) | (refine Below.drew ?_) | (refine Gr.into _ ?_ (by (first | omega | (simp; done) | (simp; omega) | (simp at *; omega)))))) (hb.mono (by omega))
  have hbs := hb.size
  simp only [World.size_alloc] at hbs
  clear hb
  obtain ⟨xc0, xc1, xf0, xf1, xl⟩ := xr.two
  obtain ⟨rc0, rc1, rf0, rf1, rl⟩ := rr.two
  have hkb := bucketB_bd f x hx
  have hbk := fun W => bucket_any f x W hx
  generalize hp : bucketB f x = p at *
  go_wp2_with fail
  with_reducible refine Calls.mono (Calls.gr0 (hbk _)) ?_
  rintro e w' ⟨rfl, g, rfl⟩
  have hgl := g.le
  try simp only [World.size_alloc] at hgl
  try simp only [World.size_setCell] at hgl
  go_wp2_with fail
  refine Calls.named (fun V hV => ?_)
  have hBV : Below w2.heap.size w2 V := by rw [hV]; exact (by repeat (first | exact Below.refl _ _ | assumption | (refine Below.setCell ?_ (by (first | omega | (simp; done) | (simp; omega) | (simp at *; omega))) _) | (refine Below.alloc ?_ (by (first | omega | (simp; done) | (simp; omega) | (simp at *; omega))) _) | (refine Below.drew ?_) | (refine Gr.into _ ?_ (by (first | omega | (simp; done) | (simp; omega) | (simp at *; omega))))))
  have b : RowAt V (g.world.heap.size) 65 [.int .i64 p, .int .u64 n] := by rw [hV]; exact (by repeat (first | assumption | exact RowAt.new_at _ _ _ _ (by (first | omega | (simp; done) | (simp; omega) | (simp at *; omega))) | (refine RowAt.alloc ?_ _) | (refine RowAt.gr ?_ _) | (refine RowAt.setOther ?_ _ _ (by (first | omega | (simp; done) | (simp; omega) | (simp at *; omega)))) | (refine RowAt.drew ?_)))
  have rr2 : RowAt V (w.heap.size + 1) 25 [.int .i64 0, .slice none 0 0] := by rw [hV]; exact (by repeat (first | assumption | exact RowAt.new_at _ _ _ _ (by (first | omega | (simp; done) | (simp; omega) | (simp at *; omega))) | (refine RowAt.alloc ?_ _) | (refine RowAt.gr ?_ _) | (refine RowAt.setOther ?_ _ _ (by (first | omega | (simp; done) | (simp; omega) | (simp at *; omega)))) | (refine RowAt.drew ?_)))
  have hr2 : RowAt V (bw) 78 [.map (some bm), .int .i64 f] := by rw [hV]; exact (by repeat (first | assumption | exact RowAt.new_at _ _ _ _ (by (first | omega | (simp; done) | (simp; omega) | (simp at *; omega))) | (refine RowAt.alloc ?_ _) | (refine RowAt.gr ?_ _) | (refine RowAt.setOther ?_ _ _ (by (first | omega | (simp; done) | (simp; omega) | (simp at *; omega)))) | (refine RowAt.drew ?_)))
  clear hV
  obtain ⟨bc0, bc1, bf0, bf1, bl⟩ := b.two
  obtain ⟨rr2c0, rr2c1, rr2f0, rr2f1, rr2l⟩ := rr2.two
  obtain ⟨hr2c0, hr2c1, hr2f0, hr2f1, hr2l⟩ := hr2.two
  have hCV : CountsAt V bm M := hC.below hBV hC.lt
  have hone : ∀ b ∈ [((p : Int), n)], -9223372036854775808 ≤ b.1 ∧ b.1 ≤ 9223372036854775807 ∧ b.2 < 18446744073709551616 := fun b hb => by
    obtain rfl : b = ((p : Int), n) := by simpa using hb
    exact ⟨by show _ ≤ (p : Int); omega, by show (p : Int) ≤ _; omega, hn⟩
  refine Calls.mono (add_any (w.heap.size + 2) bw bm f _ [((p : Int), n)] M V ⟨hone, by simp, .inr ⟨g.world.heap.size, 0, 1, rfl, bl, by simp, fun i hi => by
    obtain rfl : i = 0 := by simpa using hi
    exact ⟨bc0, bc1⟩⟩⟩ (by simp; omega) hr2 hCV hG.fit (by omega) (by omega)) ?_
  rintro e w3 ⟨rfl, hC3, hr3, hB3, hO3⟩
  simp only [List.foldl_cons, List.foldl_nil] at hC3
  have hG3 := hG.addB (b := ((p : Int), n)) ⟨by show _ ≤ (p : Int); omega, by show (p : Int) ≤ _; omega⟩
  have hl3 := addB_length M ((p : Int), n)
  have rr3 := rr2.below hB3 (by omega)
  have hb3s := hB3.size
  go_wp2_with fail
  refine Calls.mono (end_any bw bm f _ w3 hr3 hC3 hG3.rising (by omega) hG3.fits) ?_
  rintro e w4 ⟨v', rfl, hv', hnew, hb4⟩
  have rr4 := rr3.below hb4 (by omega)
  obtain ⟨r4c0, r4c1, r4f0, r4f1, r4l⟩ := rr4.two
  have hB4 : Below w.heap.size w w4 := hb0.trans ((hBV.mono (by omega)).trans ((hB3.mono (by omega)).trans (hb4.mono (by omega))))
  generalize hN : addB M ((p : Int), n) = N at *
  have hnw : ∀ k, v'.ownBlock = some k → w.heap.size + 2 ≤ k := fun k hk => by have := hnew k hk; omega
  have hv2 : ∀ u1 u2 : Value, BinsAt ((w4.setCell ⟨w.heap.size + 1, 0, none⟩ u1).setCell ⟨w.heap.size + 1, 1, none⟩ u2).heap.size ((w4.setCell ⟨w.heap.size + 1, 0, none⟩ u1).setCell ⟨w.heap.size + 1, 1, none⟩ u2) v' N := fun u1 u2 =>
    (hv'.setOther _ _ (fun k hk => by have := hnew k hk; show w.heap.size + 1 ≠ k; omega)).setOther _ _ (fun k hk => by have := hnew k hk; show w.heap.size + 1 ≠ k; omega) |>.mono (by simp)
  subst hN hp hM
  obtain ⟨n1, n2, ⟨a', rfl, hnil⟩ | ⟨a', o', c', rfl, n3, n4, n5⟩⟩ := hv'
  · rcases a' with _ | a'
    all_goals
      go_wp2_with fail
    · exact bodyPost_ret (v := .tuple #[HistV f (.slice none 0 0), .int .i64 0]) (by simp [results, Try.results15, go_sem, r4c0, r4c1, r4l]) rfl ⟨_, rfl, hv2 _ _, (by repeat (first | exact Below.refl _ _ | assumption | (refine Below.setCell ?_ (by (first | omega | (simp; done) | (simp; omega) | (simp at *; omega))) _) | (refine Below.alloc ?_ (by (first | omega | (simp; done) | (simp; omega) | (simp at *; omega))) _) | (refine Below.drew ?_) | (refine Gr.into _ ?_ (by (first | omega | (simp; done) | (simp; omega) | (simp at *; omega)))))), hnw⟩
    · exact bodyPost_ret (v := .tuple #[HistV f (.slice (some a') 0 0), .int .i64 0]) (by simp [results, Try.results15, go_sem, r4c0, r4c1, r4l]) rfl ⟨_, rfl, hv2 _ _, (by repeat (first | exact Below.refl _ _ | assumption | (refine Below.setCell ?_ (by (first | omega | (simp; done) | (simp; omega) | (simp at *; omega))) _) | (refine Below.alloc ?_ (by (first | omega | (simp; done) | (simp; omega) | (simp at *; omega))) _) | (refine Below.drew ?_) | (refine Gr.into _ ?_ (by (first | omega | (simp; done) | (simp; omega) | (simp at *; omega)))))), hnw⟩
  · go_wp2_with fail
    exact bodyPost_ret (v := .tuple #[HistV f (.slice (some ⟨a', o', none⟩) (addB (L.foldl addB []) (bucketB f x, n)).length c'), .int .i64 0]) (by simp [results, Try.results15, go_sem, r4c0, r4c1, r4l]) rfl ⟨_, rfl, hv2 _ _, (by repeat (first | exact Below.refl _ _ | assumption | (refine Below.setCell ?_ (by (first | omega | (simp; done) | (simp; omega) | (simp at *; omega))) _) | (refine Below.alloc ?_ (by (first | omega | (simp; done) | (simp; omega) | (simp at *; omega))) _) | (refine Below.drew ?_) | (refine Gr.into _ ?_ (by (first | omega | (simp; done) | (simp; omega) | (simp at *; omega)))))), hnw⟩
theorem hAdd_yes (f : Int) (x n : Nat) (v : Value) (L : List (Int × Nat)) (w : World) (hL : BinsAt w.heap.size w v L) (h : rightL f L = true) (hx : x < 2 ^ 64) (hn : n < 18446744073709551616) (hlen : L.length ≤ 1000000000000) :
    Calls Try.prog 15 #[HistV f v, .int .u64 x, .int .u64 n] w fun e w' => ∃ v', e = histRes f v' 0 ∧ BinsAt w'.heap.size w' v' (addB (L.foldl addB []) (bucketB f x, n)) ∧ Below w.heap.size w w' :=
  (hAdd_fresh f x n v L w hL h hx hn hlen).mono fun _ _ ⟨v', h1, h2, h3, _⟩ => ⟨v', h1, h2, h3⟩
end Go.Proofs.Ytnoemopaplopdaa
