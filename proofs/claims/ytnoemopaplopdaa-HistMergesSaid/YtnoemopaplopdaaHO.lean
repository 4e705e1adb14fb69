/- Package hist: Rank, Total. -/
import Derived.Test.YtnoemopaplopdaaHN
namespace Go.Proofs.Ytnoemopaplopdaa
open Go.RowKit Go.Maps
attribute [local go_sem] Oper.semAt_some

def rankTo (at_ : Nat) (ys : List ((Int × Nat) × Nat)) : Nat := ys.foldl (fun o x => if x.1.1 ≤ (at_ : Int) then x.2 else o) 0
def rankH (f : Int) (L : List (Int × Nat)) (v : Nat) : Nat := rankTo (bucketB f v) (sumsL f L)
set_option maxRecDepth 100000 in
theorem rank_any (f : Int) (x : Nat) (v : Value) (L : List (Int × Nat)) (w : World) (hL : BinsAt w.heap.size w v L) (hx : x < 2 ^ 64) :
    Calls Try.prog 22 #[HistV f v, .int .u64 x] w fun e w' => e = .returned (.int .u64 (rankH f L x : Nat)) ∧ Below w.heap.size w w' := by
  have hkb := bucketB_bd f x hx
  have hbk := fun W => bucket_any f x W hx
  unfold rankH
  generalize bucketB f x = p at *
  have hrow : ∀ (g : Gr (w.alloc (.cells #[.int .i64 f, v] 25))) (o1 o2 : Obj), RowAt ((g.world.alloc o1).alloc o2) w.heap.size 25 [.int .i64 f, v] := fun g o1 o2 =>
    (((RowAt.new_at w #[.int .i64 f, v] 25 w.heap.size rfl).gr g).alloc o1).alloc o2
  have hc0 : ∀ (g : Gr (w.alloc (.cells #[.int .i64 f, v] 25))) (o1 o2 : Obj), ((g.world.alloc o1).alloc o2).cell? ⟨w.heap.size, 0, none⟩ = some (.int .i64 f) := fun g o1 o2 => (hrow g o1 o2).two.1
  have hc1 : ∀ (g : Gr (w.alloc (.cells #[.int .i64 f, v] 25))) (o1 o2 : Obj), ((g.world.alloc o1).alloc o2).cell? ⟨w.heap.size, 1, none⟩ = some v := fun g o1 o2 => (hrow g o1 o2).two.2.1
  refine calls_of_marks Try.func22 rfl ?_
  simp only [Try.ntmps22, List.size_toArray, List.length_cons, List.length_nil, Nat.reduceAdd, Nat.reduceSub, Array.replicate_succ, Array.replicate_zero, List.push_toArray, List.append_toArray, List.nil_append, List.cons_append]
  go_wp2_with fail
  with_reducible refine Calls.mono (Calls.gr0 (hbk _)) ?_
  rintro e w' ⟨rfl, g, rfl⟩
  have hgl := g.le
  try simp only [World.size_alloc] at hgl
  try simp only [World.size_setCell] at hgl
  go_wp2_with fail
  refine Calls.mono (sums_any f v _) ?_
  rintro e w' ⟨rfl, rfl⟩
  go_wp2_with fail
  refine wp_named (fun W hW => ?_)
  have hBW : Below w.heap.size w W := by rw [hW]; exact (by repeat (first | exact Below.refl _ _ | assumption | (refine Below.setCell ?_ (by (first | omega | (simp; done) | (simp; omega) | (simp at *; omega))) _) | (refine Below.alloc ?_ (by (first | omega | (simp; done) | (simp; omega) | (simp at *; omega))) _) | (refine Below.drew ?_) | (refine Gr.into _ ?_ (by (first | omega | (simp; done) | (simp; omega) | (simp at *; omega))))))
  have o : RowAt W (g.world.heap.size) 22 [.int .u64 0] := by rw [hW]; exact (by repeat (first | assumption | exact RowAt.new_at _ _ _ _ (by (first | omega | (simp; done) | (simp; omega) | (simp at *; omega))) | (refine RowAt.alloc ?_ _) | (refine RowAt.gr ?_ _) | (refine RowAt.setOther ?_ _ _ (by (first | omega | (simp; done) | (simp; omega) | (simp at *; omega)))) | (refine RowAt.drew ?_)))
  have t : RowAt W (g.world.heap.size + 1) 3 [.int .i64 p] := by rw [hW]; exact (by repeat (first | assumption | exact RowAt.new_at _ _ _ _ (by (first | omega | (simp; done) | (simp; omega) | (simp at *; omega))) | (refine RowAt.alloc ?_ _) | (refine RowAt.gr ?_ _) | (refine RowAt.setOther ?_ _ _ (by (first | omega | (simp; done) | (simp; omega) | (simp at *; omega)))) | (refine RowAt.drew ?_)))
  have bx : RowAt W (g.world.heap.size + 2) 25 [.int .i64 f, v] := by rw [hW]; exact (by repeat (first | assumption | exact RowAt.new_at _ _ _ _ (by (first | omega | (simp; done) | (simp; omega) | (simp at *; omega))) | (refine RowAt.alloc ?_ _) | (refine RowAt.gr ?_ _) | (refine RowAt.setOther ?_ _ _ (by (first | omega | (simp; done) | (simp; omega) | (simp at *; omega)))) | (refine RowAt.drew ?_)))
  clear hW
  obtain ⟨oc0, of0, ol⟩ := o.one
  obtain ⟨tc0, tf0, tl⟩ := t.one
  obtain ⟨bxc0, bxc1, bxf0, bxf1, bxl⟩ := bx.two
  generalize g.world.heap.size = ko at *
  clear hrow hc0 hc1 g
  have hLW := hL.at_ hBW
  have hvb : ∀ k, (L ≠ [] ∧ v.ownBlock = some k) → k < w.heap.size := fun k ⟨hne, hk⟩ => by
    obtain ⟨n1, n2, ⟨a, rfl, rfl⟩ | ⟨a, off, cap, rfl, n3, n4, n5⟩⟩ := hL
    · exact absurd rfl hne
    · simp [Value.ownBlock] at hk; omega
  refine (wpIn_wide (n := 9)).1 ?_
  refine wpIn_rangeFunc_ownH (F := Fence.wide) (n := 9) rfl (by omega) (gf := 49) (lb := #[.pointer (some ⟨ko + 1 + 1, 0, none⟩)]) rfl trivial
    (enters_of Try.func49 (by kernel_rfl) rfl)
    (sums_stops 8 (ko + 2) f v L W bx hLW) KeptAt.trans (KeptAt.putObj (by rintro k (rfl | hk); exact bxl; have := hvb k hk; have := hBW.size; omega)) (Below.refl _ _) (fun _ => rfl)
    (fun pre W' => (RowAt W' ko 22 [.int .u64 (rankTo p pre : Nat)] ∧ RowAt W' (ko + 1) 3 [.int .i64 p] ∧ RowAt W' (ko + 2) 25 [.int .i64 f, v]) ∧ Below w.heap.size w W')
    (fun _ _ _ => False)
    (OwnFrom.and (fun pre X Y row hs hg hr => ⟨hs.1.grown hg (fun r e => (hr r e).2), hs.2.1.grown hg (fun r e => (hr r e).2), hs.2.2.grown hg (fun r e => (hr r e).2)⟩) (ownFrom_below (Nat.le_refl _) hBW.size))
    (fun _ _ _ _ _ hs _ _ => hs)
    ⟨⟨by simpa [rankTo] using o, t, bx⟩, hBW⟩
    (fun y a' W' => ∃ kb, ko + 2 < kb ∧ RowAt W' kb 65 [.int .i64 y.1.1, .int .u64 (y.1.2 : Nat)] ∧ a' = { tmps := #[HistV f v, .int .u64 x, .pointer (some ⟨w.heap.size, 0, none⟩), undef, .int .u64 0, .pointer (some ⟨ko, 0, none⟩), .pointer (some ⟨ko + 1, 0, none⟩), .pointer (some ⟨kb, 0, none⟩), .int .u64 (y.2 : Nat), .pointer (some ⟨w.heap.size, 0, none⟩), .int .i64 f, .int .u64 x, .int .i64 p, .agg #[.int .i64 f, v], .func (.func 49) #[] #[.pointer (some ⟨ko + 1 + 1, 0, none⟩)], .agg #[.int .i64 y.1.1, .int .u64 (y.1.2 : Nat)], .int .u64 (y.2 : Nat), undef, undef, undef, undef, undef, undef], defers := [] })
    (fun y a' _ X Y row hs hg hr => by obtain ⟨kb, e1, e2, e3⟩ := hs; exact ⟨kb, e1, e2.grown hg (fun r e => (hr r e).2), e3⟩)
    ?assign ?body ?done ?stop
  case assign =>
    rintro l pre y W' K ⟨⟨h1, h2, h3⟩, hB⟩ hK
    gi_wp2
    refine hK _ _ ((KeepsOthers.alloc _ _).from _) ?_ ⟨⟨h1.alloc _, h2.alloc _, h3.alloc _⟩, hB.alloc hB.size _⟩ ⟨W'.heap.size, h3.lt, RowAt.of_new _ _ _, rfl⟩
    rintro k (rfl | hk)
    · exact Below.heap_alloc _ _ _ h3.lt
    · exact Below.heap_alloc _ _ _ (by have := hvb k hk; have := hB.size; omega)
  case body =>
    rintro l pre y a' W' hl hloop ⟨⟨h1, h2, h3⟩, hB⟩ ⟨kb, hkb, h4, rfl⟩ hlt
    obtain ⟨oc0, of0, ol'⟩ := h1.one
    obtain ⟨tc0, tf0, tl'⟩ := h2.one
    obtain ⟨bc0, bc1, -, -, bl'⟩ := h4.two
    have hsnoc : rankTo p (pre ++ [y]) = if y.1.1 ≤ (p : Int) then y.2 else rankTo p pre := by simp [rankTo]
    by_cases hy : y.1.1 ≤ (p : Int)
    · rw [if_pos hy] at hsnoc
      gi_wp2
      refine ⟨(KeepsOthers.setCell _ _ _).from _, ?_, ⟨by rw [hsnoc]; exact h1.set 0 _, h2.setOther _ _ (by show ko + 1 ≠ ko; omega), h3.setOther _ _ (by show ko + 2 ≠ ko; omega)⟩, hB.setCell (p := ⟨ko, 0, none⟩) (by show _ ≤ ko; omega) _⟩
      rintro k (rfl | hk)
      · exact Below.heap_setCell _ _ _ _ (by show ko + 2 ≠ ko; omega)
      · exact Below.heap_setCell _ _ _ _ (by show k ≠ ko; have := hvb k hk; omega)
    · rw [if_neg hy] at hsnoc
      gi_wp2
      exact ⟨KeepsFrom.refl _ _, fun _ _ => rfl, ⟨by rw [hsnoc]; exact h1, h2, h3⟩, hB⟩
  case done =>
    rintro D ys W' hD rfl ⟨⟨h1, h2, h3⟩, hB⟩ hK
    obtain ⟨oc0, of0, ol'⟩ := h1.one
    go_wp2
    exact bodyPostM_ret1 (v := .int .u64 (rankTo p (sumsL f L) : Nat)) hK (by simp [results, Try.f22, go_sem]) rfl ⟨rfl, below_putObj hB hK (by have := hBW.size; omega)⟩
  case stop =>
    rintro D c pre W _ _ h _
    exact h.elim
end Go.Proofs.Ytnoemopaplopdaa
