/- The walk of the law HllOnce. -/
import Derived.Test.YtngahohheleeeaaHR
import Derived.Test.YtngahohheleeeaaL0
import Derived.Deep.RegionHeld3
import Derived.Deep.DeepCutAuto
namespace Go.Proofs.Ytngahohheleeeaa
open Go.RowKit

theorem once_no (b at_ : Int) (v : Value) (zs : List Nat) (w : World) (h : isBitsB b = false) (hz : U64s w.heap.size w v zs) :
    Calls Try.prog 4 #[.int .i64 b, v, .int .i64 at_] w fun e w' => e = .returned (.bool true) ∧ Below w.heap.size w w' := by
  go_enter Try.func4, Try.ntmps4
  go_wp2_with (first
    | (go_at_call 8; (first | (with_reducible refine Calls.mono (Calls.gr (shown_any _)) ?_) | (refine Calls.mono (Calls.gr0 (shown_any _)) ?_)); rintro e w' ⟨rfl, g, rfl⟩; have hgl := g.le; (try simp only [World.size_alloc] at hgl); (try simp only [World.size_setCell] at hgl)))
  refine Calls.mono (few_any _ _ _ _ (hz.gr g (Nat.le_refl _))) ?_
  rintro e w' ⟨⟨u, rfl, hu⟩, rfl⟩
  go_wp2_with (first
    | (go_at_call 10; (first | (with_reducible refine Calls.mono (Calls.gr (of_no _ _ _ h)) ?_) | (refine Calls.mono (Calls.gr0 (of_no _ _ _ h)) ?_)); rintro e w' ⟨rfl, g, rfl⟩; have hgl := g.le; (try simp only [World.size_alloc] at hgl); (try simp only [World.size_setCell] at hgl)))
  go_ret
  exact ⟨rfl, (by repeat (first | exact Below.refl _ _ | assumption | (refine Below.setCell ?_ (by (first | omega | (simp; done) | (simp; omega) | (simp at *; omega))) _) | (refine Below.alloc ?_ (by (first | omega | (simp; done) | (simp; omega) | (simp at *; omega))) _) | (refine Below.drew ?_) | (refine Gr.into _ ?_ (by (first | omega | (simp; done) | (simp; omega) | (simp at *; omega))))))⟩

theorem once_out (b : Nat) (at_ : Int) (v : Value) (zs : List Nat) (w : World) (h : isBitsB b = true) (hz : U64s w.heap.size w v zs) (ha : at_ < 0 ∨ (zs.take 100).length ≤ at_) :
    Calls Try.prog 4 #[.int .i64 b, v, .int .i64 at_] w fun e w' => e = .returned (.bool true) ∧ Below w.heap.size w w' := by
  go_enter Try.func4, Try.ntmps4
  go_wp2_with (first
    | (go_at_call 8; (first | (with_reducible refine Calls.mono (Calls.gr (shown_any _)) ?_) | (refine Calls.mono (Calls.gr0 (shown_any _)) ?_)); rintro e w' ⟨rfl, g, rfl⟩; have hgl := g.le; (try simp only [World.size_alloc] at hgl); (try simp only [World.size_setCell] at hgl)))
  refine Calls.mono (few_any _ _ _ _ (hz.gr g (Nat.le_refl _))) ?_
  rintro e w' ⟨⟨u, rfl, hu⟩, rfl⟩
  have hlen : (zs.take 100).length ≤ 100 := List.length_take_le _ _
  generalize zs.take 100 = xs at *
  have hu' := hu.mono g.le
  obtain ⟨-, -, ⟨a, rfl, rfl⟩ | ⟨a, off, cap, rfl, h3, -, h4⟩⟩ := hu
  all_goals
    rcases ha with ha | ha
    · go_wp2_with (first
        | (go_at_call 10; (first | (with_reducible refine Calls.mono (Calls.gr (of_yes _ _ _ _ h hu')) ?_) | (refine Calls.mono (Calls.gr0 (of_yes _ _ _ _ h hu')) ?_)); rintro e w' ⟨rfl, g, rfl⟩; have hgl := g.le; (try simp only [World.size_alloc] at hgl); (try simp only [World.size_setCell] at hgl)))
      go_ret
      exact ⟨rfl, (by repeat (first | exact Below.refl _ _ | assumption | (refine Below.setCell ?_ (by (first | omega | (simp; done) | (simp; omega) | (simp at *; omega))) _) | (refine Below.alloc ?_ (by (first | omega | (simp; done) | (simp; omega) | (simp at *; omega))) _) | (refine Below.drew ?_) | (refine Gr.into _ ?_ (by (first | omega | (simp; done) | (simp; omega) | (simp at *; omega))))))⟩
    · have hneg : 0 ≤ at_ := by omega
      try simp only [List.length_nil, Int.natCast_zero] at ha
      go_wp2_with (first
        | (go_at_call 10; (first | (with_reducible refine Calls.mono (Calls.gr (of_yes _ _ _ _ h hu')) ?_) | (refine Calls.mono (Calls.gr0 (of_yes _ _ _ _ h hu')) ?_)); rintro e w' ⟨rfl, g, rfl⟩; have hgl := g.le; (try simp only [World.size_alloc] at hgl); (try simp only [World.size_setCell] at hgl)))
      go_ret
      exact ⟨rfl, (by repeat (first | exact Below.refl _ _ | assumption | (refine Below.setCell ?_ (by (first | omega | (simp; done) | (simp; omega) | (simp at *; omega))) _) | (refine Below.alloc ?_ (by (first | omega | (simp; done) | (simp; omega) | (simp at *; omega))) _) | (refine Below.drew ?_) | (refine Gr.into _ ?_ (by (first | omega | (simp; done) | (simp; omega) | (simp at *; omega))))))⟩

set_option maxRecDepth 100000 in
set_option maxHeartbeats 400000 in
theorem once_in (b at_ : Nat) (v : Value) (zs : List Nat) (w : World) (h : isBitsB b = true) (hz : U64s w.heap.size w v zs) (ha : at_ < (zs.take 100).length) :
    Calls Try.prog 4 #[.int .i64 b, v, .int .i64 at_] w fun e w' => e = .returned (.bool true) ∧ Below w.heap.size w w' := by
  go_enter Try.func4, Try.ntmps4
  go_wp2_with (first
    | (go_at_call 8; (first | (with_reducible refine Calls.mono (Calls.gr (shown_any _)) ?_) | (refine Calls.mono (Calls.gr0 (shown_any _)) ?_)); rintro e w' ⟨rfl, g, rfl⟩; have hgl := g.le; (try simp only [World.size_alloc] at hgl); (try simp only [World.size_setCell] at hgl)))
  refine Calls.mono (few_any _ _ _ _ (hz.gr g (Nat.le_refl _))) ?_
  rintro e w' ⟨⟨u, rfl, hu⟩, rfl⟩
  have hlen : (zs.take 100).length ≤ 100 := List.length_take_le _ _
  generalize zs.take 100 = xs at *
  have hu' := hu.mono g.le
  obtain ⟨hlt, -, ⟨a, rfl, rfl⟩ | ⟨a, off, cap, rfl, h3, -, h4⟩⟩ := hu
  · cases ha
  have hz2 := hlt xs[at_] (List.getElem_mem ha)
  have hcell : w.cell? ⟨a, off + at_, none⟩ = some (.int .u64 (xs[at_] : Nat)) := by rw [← g.cell? ⟨a, off + at_, none⟩ h3]; exact h4 at_ ha
  go_wp2_with (first
      | (go_at_call 10; (first | (with_reducible refine Calls.mono (Calls.gr (of_yes _ _ _ _ h hu')) ?_) | (refine Calls.mono (Calls.gr0 (of_yes _ _ _ _ h hu')) ?_)); rintro e w' ⟨rfl, g, rfl⟩; have hgl := g.le; (try simp only [World.size_alloc] at hgl); (try simp only [World.size_setCell] at hgl)))
  obtain ⟨S, hS⟩ : ∃ S : ByteArray, S = ⟨(addRegs b (noRegs b) xs).toArray⟩ := ⟨_, rfl⟩
  have hSl : S.data.toList = regsOf b xs := by rw [hS]; rfl
  have hSr : rightB b S.data.toList = true := by rw [hSl]; exact regsOf_right h xs
  have hSz : S.size = 2 ^ b := by have := regsOf_length b xs; rw [← hSl] at this; simpa using this
  obtain ⟨hb1, hb2⟩ := isBits_bd h
  have hat : atN b xs[at_] < S.size := by rw [hSz]; exact atN_lt (b := b) (n := xs[at_]) (by omega) hz2
  have hrank : (rankN b xs[at_] : Int) ≤ (S[atN b xs[at_]].toNat : Nat) := by
    rw [← byte_getD S _ hat, hSl]
    exact_mod_cast regsOf_rank (by omega) (List.getElem_mem ha) hz2
  have hbyte := S[atN b xs[at_]].toNat_lt
  have hrk := rankN_bd (b := b) (n := xs[at_]) (by omega)
  have hadd : ∀ w : World, Calls Try.prog 13 #[.agg #[.int .i64 b, .string S], .int .u64 (xs[at_] : Nat)] w fun e w' => e = hllRes b S 0 ∧ Below w.heap.size w w' := fun w => by
    have := add_yes b xs[at_] S w hSr hz2
    rw [hSl, regsOf_again (by omega) (List.getElem_mem ha)] at this
    have e : (⟨(regsOf b xs).toArray⟩ : ByteArray) = S := hS.symm
    rwa [e] at this
  have hpl : ∀ w : World, Calls Try.prog 15 #[.int .i64 b, .int .u64 (xs[at_] : Nat)] w fun e w' => e = .returned (.tuple #[.int .i64 (atN b xs[at_]), .int .i64 (rankN b xs[at_])]) ∧ Below w.heap.size w w' := fun w => place_nat b xs[at_] w h hz2
  rw [← hS]
  clear hS hSl hSr hSz
  generalize atN b xs[at_] = k at *
  generalize rankN b xs[at_] = rk at *
  generalize xs[at_] = z at *
  refine wp_named (fun W hW => ?_)
  have hBW : Below w.heap.size w W := by rw [hW]; exact (by repeat (first | exact Below.refl _ _ | assumption | (refine Below.setCell ?_ (by (first | omega | (simp; done) | (simp; omega) | (simp at *; omega))) _) | (refine Below.alloc ?_ (by (first | omega | (simp; done) | (simp; omega) | (simp at *; omega))) _) | (refine Below.drew ?_) | (refine Gr.into _ ?_ (by (first | omega | (simp; done) | (simp; omega) | (simp at *; omega))))))
  have x : RowAt W (g.world.heap.size) 23 [.int .i64 b, .string S] := by rw [hW]; exact (by repeat (first | assumption | exact RowAt.new_at _ _ _ _ (by (first | omega | (simp; done) | (simp; omega) | (simp at *; omega))) | (refine RowAt.alloc ?_ _) | (refine RowAt.gr ?_ _) | (refine RowAt.setOther ?_ _ _ (by (first | omega | (simp; done) | (simp; omega) | (simp at *; omega)))) | (refine RowAt.drew ?_)))
  have hcz : W.cell? ⟨a, off + at_, none⟩ = some (.int .u64 (z : Nat)) := by rw [hW, World.cell?_alloc_lt _ _ _ (by show a < _; omega), g.cell? _ h3]; exact hcell
  clear hW
  obtain ⟨xc0, xc1, xf0, xf1, xl⟩ := x.two
  generalize g.world.heap.size = bx at *
  go_cut [10, 11] (fun s10 s11 wx => ∃ k : Nat, s10 = .pointer (some ⟨k, 0, none⟩) ∧ s11 = .int .i64 0 ∧ RowAt wx k 23 [.int .i64 b, .string S] ∧ Below W.heap.size W wx)
  case first =>
    have mk : ∀ w', Below W.heap.size W w' → w'.cell? ⟨bx, 0, none⟩ = some (.int .i64 b) ∧ w'.cell? ⟨bx, 1, none⟩ = some (.string S) ∧ w'.cell? ⟨a, off + at_, none⟩ = some (.int .u64 (z : Nat)) ∧ Below W.heap.size W w' :=
      fun w' hb => ⟨by rw [hb.cell (p := ⟨bx, 0, none⟩) xl]; exact xc0, by rw [hb.cell (p := ⟨bx, 1, none⟩) xl]; exact xc1, by rw [hb.cell (p := ⟨a, off + at_, none⟩) (by show a < _; omega)]; exact hcz, hb⟩
    go_region_held3 (fun w' => w'.cell? ⟨bx, 0, none⟩ = some (.int .i64 b) ∧ w'.cell? ⟨bx, 1, none⟩ = some (.string S) ∧ w'.cell? ⟨a, off + at_, none⟩ = some (.int .u64 (z : Nat)) ∧ Below W.heap.size W w')
      ((refine mk _ ?_; repeat (first | exact Below.refl _ _ | assumption | (refine Below.drew ?_) | (refine Below.alloc ?_ (by (first | omega | (simp; done) | (simp; omega) | (simp at *; omega))) _) | (refine Gr.into _ ?_ (by (first | omega | (simp; done) | (simp; omega) | (simp at *; omega)))) | (refine Below.setCell ?_ (by (first | omega | (simp; done) | (simp; omega) | (simp at *; omega))) _))))
      (first | (go_at_call 13; refine (hadd _).mono ?_; rintro e w1 ⟨rfl, hb1⟩; obtain ⟨g1, rfl⟩ := Gr.of hb1; clear hb1; have hl1 := g1.le; (try simp at hl1)))
    · go_wp2_with fail
      go_meet
      exact ⟨_, rfl, rfl, (by repeat (first | assumption | exact RowAt.new_at _ _ _ _ (by (first | omega | (simp; done) | (simp; omega) | (simp at *; omega))) | (refine RowAt.alloc ?_ _) | (refine RowAt.gr ?_ _) | (refine RowAt.setOther ?_ _ _ (by (first | omega | (simp; done) | (simp; omega) | (simp at *; omega)))) | (refine RowAt.drew ?_))), (by repeat (first | exact Below.refl _ _ | assumption | (refine Below.setCell ?_ (by (first | omega | (simp; done) | (simp; omega) | (simp at *; omega))) _) | (refine Below.alloc ?_ (by (first | omega | (simp; done) | (simp; omega) | (simp at *; omega))) _) | (refine Below.drew ?_) | (refine Gr.into _ ?_ (by (first | omega | (simp; done) | (simp; omega) | (simp at *; omega))))))⟩
    · have r1 := (((RowAt.drew (RowAt.new_at W #[.int .i64 0, .string ⟨#[]⟩] 23 W.heap.size rfl)).gr g1).set 0 (.int .i64 b)).set 1 (.string S)
      go_wp2_with fail
      go_meet
      exact ⟨_, rfl, rfl, r1, (by repeat (first | exact Below.refl _ _ | assumption | (refine Below.setCell ?_ (by (first | omega | (simp; done) | (simp; omega) | (simp at *; omega))) _) | (refine Below.alloc ?_ (by (first | omega | (simp; done) | (simp; omega) | (simp at *; omega))) _) | (refine Below.drew ?_) | (refine Gr.into _ ?_ (by (first | omega | (simp; done) | (simp; omega) | (simp at *; omega))))))⟩
  case rest =>
    obtain ⟨ky, rfl, rfl, hy, hBc⟩ := hcut
    obtain ⟨yc0, yc1, -, -, yl⟩ := hy.two
    obtain ⟨xc0, xc1, -, -, xl⟩ := (x.below hBc xl).two
    have hcz : wc.cell? ⟨a, off + at_, none⟩ = some (.int .u64 (z : Nat)) := by rw [hBc.cell (p := ⟨a, off + at_, none⟩) (by show a < _; omega)]; exact hcz
    have hBw : Below w.heap.size w wc := hBW.trans (hBc.mono hBW.size)
    go_wp2_with (first
      | (go_at_call 15; (first | (with_reducible refine Calls.mono (Calls.gr (hpl _)) ?_) | (refine Calls.mono (Calls.gr0 (hpl _)) ?_)); rintro e w' ⟨rfl, g, rfl⟩; have hgl := g.le; (try simp only [World.size_alloc] at hgl); (try simp only [World.size_setCell] at hgl)))
    go_ret
    exact ⟨by simp; omega, (by repeat (first | exact Below.refl _ _ | assumption | (refine Below.setCell ?_ (by (first | omega | (simp; done) | (simp; omega) | (simp at *; omega))) _) | (refine Below.alloc ?_ (by (first | omega | (simp; done) | (simp; omega) | (simp at *; omega))) _) | (refine Below.drew ?_) | (refine Gr.into _ ?_ (by (first | omega | (simp; done) | (simp; omega) | (simp at *; omega))))))⟩

theorem once_all (b at_ : Int) (v : Value) (zs : List Nat) (w : World) (hz : U64s w.heap.size w v zs) :
    Calls Try.prog 4 #[.int .i64 b, v, .int .i64 at_] w fun e w' => e = .returned (.bool true) ∧ Below w.heap.size w w' := by
  cases h : isBitsB b
  · exact once_no b at_ v zs w h hz
  · obtain ⟨h1, h2⟩ := isBits_bd h
    obtain ⟨n, rfl⟩ := Int.eq_ofNat_of_zero_le (a := b) (by omega)
    by_cases ha : at_ < 0 ∨ ((zs.take 100).length : Int) ≤ at_
    · exact once_out n at_ v zs w h hz ha
    · obtain ⟨m, rfl⟩ := Int.eq_ofNat_of_zero_le (a := at_) (by omega)
      exact once_in n m v zs w h hz (by omega)
end Go.Proofs.Ytngahohheleeeaa
