/- The hist laws' shown. -/
import Derived.Test.YtnoemopaplopdaaHU
namespace Go.Proofs.Ytnoemopaplopdaa
open Go.RowKit Go.Maps

theorem binsNil (B : Nat) (w : World) : BinsAt B w (.slice none 0 0) [] := ⟨by simp, by simp, .inl ⟨none, rfl, rfl⟩⟩
set_option maxRecDepth 100000 in
theorem shown_any (w : World) :
    Calls Try.prog 11 #[] w fun e w' => e = .returned (.bool true) ∧ Below w.heap.size w w' := by
  have p1 : ∀ W, Calls Try.prog 13 #[.int .i64 2, .int .i64 15] W fun e w' => e = .returned (.tuple #[.int .u64 12, .int .u64 13, .bool true]) ∧ Below W.heap.size W w' := fun W => by
    have := bounds_any 2 15 W
    rwa [show boundsB 2 15 = some (12, 13) by decide +kernel] at this
  have p2 : ∀ W, Calls Try.prog 15 #[HistV 2 (.slice none 0 0), .int .u64 13, .int .u64 5] W fun e w' => ∃ v', e = histRes 2 v' 0 ∧ BinsAt w'.heap.size w' v' [(15, 5)] ∧ Below W.heap.size W w' := fun W => by
    have := hAdd_yes 2 13 5 (.slice none 0 0) [] W (binsNil _ _) (by decide +kernel) (by decide) (by decide) (by simp)
    rwa [show addB (([] : List (Int × Nat)).foldl addB []) (((bucketB 2 13 : Nat) : Int), 5) = [(15, 5)] by decide +kernel] at this
  have p3 : ∀ W, Calls Try.prog 15 #[HistV 4 (.slice none 0 0), .int .u64 13, .int .u64 5] W fun e w' => e = histRes 0 (.slice none 0 0) 90 ∧ Below W.heap.size W w' := fun W => hAdd_no 4 13 5 _ [] W (binsNil _ _) (by decide +kernel)
  have p4 : ∀ W, Calls Try.prog 17 #[.int .i64 2, .int .u64 13] W fun e w' => e = .returned (.int .i64 15) ∧ Below W.heap.size W w' := fun W => by
    have := bucket_any 2 13 W (by decide)
    rwa [show bucketB 2 13 = 15 by decide +kernel] at this
  have p5 : ∀ v W, BinsAt W.heap.size W v [(15, 5)] → Calls Try.prog 23 #[HistV 2 v] W fun e w' => e = .returned (.int .u64 5) ∧ Below W.heap.size W w' := fun v W hv => by
    have := total_any 2 v [(15, 5)] W hv
    rwa [show totalH 2 [(15, 5)] = 5 by decide +kernel] at this
  go_enter Try.func11, Try.ntmps11
  go_wp2_with fail
  with_reducible refine Calls.mono (Calls.gr0 (p1 _)) ?_
  rintro e w' ⟨rfl, g, rfl⟩
  have hgl := g.le
  try simp only [World.size_alloc] at hgl
  try simp only [World.size_setCell] at hgl
  go_wp2_with fail
  refine Calls.mono (p2 _) ?_
  rintro e w2 ⟨v', rfl, hv', hb⟩
  have hb0 : Below w.heap.size w w2 := g.below.trans (hb.mono g.le)
  obtain ⟨n1, n2, ⟨a, rfl, hnil⟩ | ⟨a, off, cap, rfl, n3, n4, n5⟩⟩ := id hv'
  · cases hnil
  have hv1 : BinsAt w2.heap.size w2 (.slice (some ⟨a, off, none⟩) 1 cap) [(15, 5)] := hv'
  clear hgl hb g
  go_wp2_with fail
  refine Calls.named (fun V hV => ?_)
  have hBV : Below w2.heap.size w2 V := by rw [hV]; exact (by repeat (first | exact Below.refl _ _ | assumption | (refine Below.setCell ?_ (by (first | omega | (simp; done) | (simp; omega) | (simp at *; omega))) _) | (refine Below.alloc ?_ (by (first | omega | (simp; done) | (simp; omega) | (simp at *; omega))) _) | (refine Below.drew ?_) | (refine Gr.into _ ?_ (by (first | omega | (simp; done) | (simp; omega) | (simp at *; omega))))))
  have y : RowAt V (w2.heap.size) 25 [.int .i64 2, .slice (some ⟨a, off, none⟩) 1 cap] := by rw [hV]; exact (by repeat (first | assumption | exact RowAt.new_at _ _ _ _ (by (first | omega | (simp; done) | (simp; omega) | (simp at *; omega))) | (refine RowAt.alloc ?_ _) | (refine RowAt.gr ?_ _) | (refine RowAt.setOther ?_ _ _ (by (first | omega | (simp; done) | (simp; omega) | (simp at *; omega)))) | (refine RowAt.drew ?_)))
  clear hV
  obtain ⟨yc0, yc1, yf0, yf1, yl⟩ := y.two
  have hvV := hv1.at_ hBV
  with_reducible refine Calls.mono (Calls.gr0 (p3 _)) ?_
  rintro e w' ⟨rfl, g, rfl⟩
  have hgl := g.le
  try simp only [World.size_alloc] at hgl
  try simp only [World.size_setCell] at hgl
  go_wp2_with fail
  refine Calls.named (fun U hU => ?_)
  have hBU : Below V.heap.size V U := by rw [hU]; exact (by repeat (first | exact Below.refl _ _ | assumption | (refine Below.setCell ?_ (by (first | omega | (simp; done) | (simp; omega) | (simp at *; omega))) _) | (refine Below.alloc ?_ (by (first | omega | (simp; done) | (simp; omega) | (simp at *; omega))) _) | (refine Below.drew ?_) | (refine Gr.into _ ?_ (by (first | omega | (simp; done) | (simp; omega) | (simp at *; omega))))))
  have z : RowAt U (w2.heap.size) 25 [.int .i64 2, .slice (some ⟨a, off, none⟩) 1 cap] := by rw [hU]; exact (by repeat (first | assumption | exact RowAt.new_at _ _ _ _ (by (first | omega | (simp; done) | (simp; omega) | (simp at *; omega))) | (refine RowAt.alloc ?_ _) | (refine RowAt.gr ?_ _) | (refine RowAt.setOther ?_ _ _ (by (first | omega | (simp; done) | (simp; omega) | (simp at *; omega)))) | (refine RowAt.drew ?_)))
  clear hU
  obtain ⟨zc0, zc1, zf0, zf1, zl⟩ := z.two
  have hvU := hvV.at_ hBU
  have p6 : ∀ g : Gr U, Calls Try.prog 23 #[HistV 2 (.slice (some ⟨a, off, none⟩) 1 cap)] g.world fun e w' => e = .returned (.int .u64 5) ∧ Below g.world.heap.size g.world w' := fun g => p5 _ _ (hvU.at_ g.below)
  have hBU0 : Below w.heap.size w U := hb0.trans ((hBV.mono hb0.size).trans (hBU.mono (by have := hb0.size; have := hBV.size; omega)))
  clear p5
  with_reducible refine Calls.mono (Calls.gr0 (p4 _)) ?_
  rintro e w' ⟨rfl, g, rfl⟩
  have hgl := g.le
  try simp only [World.size_alloc] at hgl
  try simp only [World.size_setCell] at hgl
  go_wp2_with fail
  with_reducible refine Calls.mono (Calls.gr (p6 g)) ?_
  rintro e w' ⟨rfl, g, rfl⟩
  have hgl := g.le
  try simp only [World.size_alloc] at hgl
  try simp only [World.size_setCell] at hgl
  go_wp2_with fail
  go_ret
  exact ⟨by simp, hBU0.trans (g.below.mono hBU0.size)⟩
end Go.Proofs.Ytnoemopaplopdaa
