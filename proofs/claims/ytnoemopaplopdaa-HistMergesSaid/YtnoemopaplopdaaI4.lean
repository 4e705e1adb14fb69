/- Package hist: Select. -/
import Derived.Test.YtnoemopaplopdaaI3
import Derived.Test.YtnoemopaplopdaaHU
namespace Go.Proofs.Ytnoemopaplopdaa
open Go.RowKit Go.Maps
attribute [local go_sem] Oper.semAt_some

def selTo (place : Nat) (ys : List ((Int × Nat) × Nat)) : Option ((Int × Nat) × Nat) := ys.find? fun x => decide (place < x.2)
def selectB (f : Int) (L : List (Int × Nat)) (place : Nat) : Option (Nat × Nat) := (selTo place (sumsL f L)).bind fun x => boundsB f x.1.1
def bLo (o : Option (Nat × Nat)) : Nat := match o with | some (a, _) => a | none => 0
def bHi (o : Option (Nat × Nat)) : Nat := match o with | some (_, b) => b | none => 0
theorem bndRes_eq (o : Option (Nat × Nat)) : bndRes o = .returned (.tuple #[.int .u64 (bLo o), .int .u64 (bHi o), .bool o.isSome]) := by
  rcases o with _ | ⟨a, b⟩ <;> rfl
def SelRows (W' : World) (k : Nat) (f : Int) (v : Value) (place : Nat) (o : Option (Nat × Nat)) : Prop :=
  RowAt W' k 25 [.int .i64 f, v] ∧ RowAt W' (k + 1) 22 [.int .u64 place] ∧ RowAt W' (k + 1 + 1) 22 [.int .u64 (bLo o)] ∧ RowAt W' (k + 1 + 1 + 1) 22 [.int .u64 (bHi o)] ∧ RowAt W' (k + 1 + 1 + 1 + 1) 4 [.bool o.isSome]
theorem SelRows.grown {k : Nat} {f : Int} {v : Value} {place : Nat} {o : Option (Nat × Nat)} {X Y : World} {row : Option Nat} (h : SelRows X k f v place o) (hg : X.grownBy Y row) (hr : ∀ r, row = some r → ∃ o : Obj, X.heap[r]? = some o ∧ o.isCells = false) : SelRows Y k f v place o :=
  ⟨h.1.grown hg hr, h.2.1.grown hg hr, h.2.2.1.grown hg hr, h.2.2.2.1.grown hg hr, h.2.2.2.2.grown hg hr⟩
theorem SelRows.below {k B : Nat} {f : Int} {v : Value} {place : Nat} {o : Option (Nat × Nat)} {X Y : World} (h : SelRows X k f v place o) (hg : Below B X Y) (hB : k + 5 ≤ B) : SelRows Y k f v place o :=
  ⟨h.1.below hg (by omega), h.2.1.below hg (by omega), h.2.2.1.below hg (by omega), h.2.2.2.1.below hg (by omega), h.2.2.2.2.below hg (by omega)⟩
theorem SelRows.putObj {k D : Nat} {f : Int} {v : Value} {place : Nat} {o : Option (Nat × Nat)} {X : World} (h : SelRows X k f v place o) (ob : Obj) (hD : k + 5 ≤ D) : SelRows (X.putObj D ob) k f v place o :=
  ⟨h.1.putObj _ (by omega), h.2.1.putObj _ (by omega), h.2.2.1.putObj _ (by omega), h.2.2.2.1.putObj _ (by omega), h.2.2.2.2.putObj _ (by omega)⟩
theorem SelRows.store {k : Nat} {f : Int} {v : Value} {place : Nat} {o o2 : Option (Nat × Nat)} {X : World} (h : SelRows X k f v place o) :
    SelRows (((X.setCell ⟨k + 1 + 1, 0, none⟩ (.int .u64 (bLo o2))).setCell ⟨k + 1 + 1 + 1, 0, none⟩ (.int .u64 (bHi o2))).setCell ⟨k + 1 + 1 + 1 + 1, 0, none⟩ (.bool o2.isSome)) k f v place o2 := by
  obtain ⟨h1, h2, h3, h4, h5⟩ := h
  refine ⟨((h1.setOther _ _ ?_).setOther _ _ ?_).setOther _ _ ?_, ((h2.setOther _ _ ?_).setOther _ _ ?_).setOther _ _ ?_, ((h3.set 0 _).setOther _ _ ?_).setOther _ _ ?_, ((h4.setOther _ _ ?_).set 0 _).setOther _ _ ?_, ((h5.setOther _ _ ?_).setOther _ _ ?_).set 0 _⟩
  all_goals
    dsimp only
    omega
theorem SelRows.size {k : Nat} {f : Int} {v : Value} {place : Nat} {o : Option (Nat × Nat)} {X : World} (h : SelRows X k f v place o) : k + 5 ≤ X.heap.size := by
  have := h.2.2.2.2.lt; omega
theorem find_append_one {p : ((Int × Nat) × Nat) → Bool} : ∀ (l : List ((Int × Nat) × Nat)) (y : (Int × Nat) × Nat) (t : List ((Int × Nat) × Nat)), (∀ x ∈ l, p x = false) → p y = true → (l ++ [y] ++ t).find? p = some y
  | [], y, t, _, h => by simp [h]
  | a :: l, y, t, h1, h => by
    have := find_append_one l y t (fun x hx => h1 x (by simp [hx])) h
    simp only [List.cons_append, List.append_assoc] at this ⊢
    rw [List.find?_cons_of_neg (by simp [h1 a (by simp)])]
    exact this
theorem below_putObj' {k : Nat} {w X : World} (h : Below k w X) {D : Nat} {o o' : Obj} (hK : X.heap[D]? = some o) (hD : k ≤ D) : Below k w (X.putObj D o') :=
  h.grown (grownBy_putObj' X D o') (by have := (Array.getElem?_eq_some_iff.1 hK).1; omega) (fun k e => by cases e; omega)
set_option maxRecDepth 100000 in
theorem select_any (f : Int) (x : Nat) (v : Value) (L : List (Int × Nat)) (w : World) (hL : BinsAt w.heap.size w v L) (hx : x < 2 ^ 64) :
    Calls Try.prog 24 #[HistV f v, .int .u64 x] w fun e w' => e = bndRes (selectB f L x) ∧ Below w.heap.size w w' := by
  refine calls_of_marks Try.func24 rfl ?_
  simp only [Try.ntmps24, List.size_toArray, List.length_cons, List.length_nil, Nat.reduceAdd, Nat.reduceSub, Array.replicate_succ, Array.replicate_zero, List.push_toArray, List.append_toArray, List.nil_append, List.cons_append]
  go_wp2_with fail
  refine Calls.mono (sums_any f v _) ?_
  rintro e w' ⟨rfl, rfl⟩
  go_wp2_with fail
  refine wp_named (fun W hW => ?_)
  have hBW : Below w.heap.size w W := by rw [hW]; exact (by repeat (first | exact Below.refl _ _ | assumption | (refine Below.setCell ?_ (by (first | omega | (simp; done) | (simp; omega) | (simp at *; omega))) _) | (refine Below.alloc ?_ (by (first | omega | (simp; done) | (simp; omega) | (simp at *; omega))) _) | (refine Below.drew ?_) | (refine Gr.into _ ?_ (by (first | omega | (simp; done) | (simp; omega) | (simp at *; omega))))))
  have x0 : RowAt W (w.heap.size) 25 [.int .i64 f, v] := by rw [hW]; exact (by repeat (first | assumption | exact RowAt.new_at _ _ _ _ (by (first | omega | (simp; done) | (simp; omega) | (simp at *; omega))) | (refine RowAt.alloc ?_ _) | (refine RowAt.gr ?_ _) | (refine RowAt.setOther ?_ _ _ (by (first | omega | (simp; done) | (simp; omega) | (simp at *; omega)))) | (refine RowAt.drew ?_)))
  have pl : RowAt W (w.heap.size + 1) 22 [.int .u64 x] := by rw [hW]; exact (by repeat (first | assumption | exact RowAt.new_at _ _ _ _ (by (first | omega | (simp; done) | (simp; omega) | (simp at *; omega))) | (refine RowAt.alloc ?_ _) | (refine RowAt.gr ?_ _) | (refine RowAt.setOther ?_ _ _ (by (first | omega | (simp; done) | (simp; omega) | (simp at *; omega)))) | (refine RowAt.drew ?_)))
  have o1 : RowAt W (w.heap.size + 1 + 1) 22 [.int .u64 0] := by rw [hW]; exact (by repeat (first | assumption | exact RowAt.new_at _ _ _ _ (by (first | omega | (simp; done) | (simp; omega) | (simp at *; omega))) | (refine RowAt.alloc ?_ _) | (refine RowAt.gr ?_ _) | (refine RowAt.setOther ?_ _ _ (by (first | omega | (simp; done) | (simp; omega) | (simp at *; omega)))) | (refine RowAt.drew ?_)))
  have o2 : RowAt W (w.heap.size + 1 + 1 + 1) 22 [.int .u64 0] := by rw [hW]; exact (by repeat (first | assumption | exact RowAt.new_at _ _ _ _ (by (first | omega | (simp; done) | (simp; omega) | (simp at *; omega))) | (refine RowAt.alloc ?_ _) | (refine RowAt.gr ?_ _) | (refine RowAt.setOther ?_ _ _ (by (first | omega | (simp; done) | (simp; omega) | (simp at *; omega)))) | (refine RowAt.drew ?_)))
  have o3 : RowAt W (w.heap.size + 1 + 1 + 1 + 1) 4 [.bool false] := by rw [hW]; exact (by repeat (first | assumption | exact RowAt.new_at _ _ _ _ (by (first | omega | (simp; done) | (simp; omega) | (simp at *; omega))) | (refine RowAt.alloc ?_ _) | (refine RowAt.gr ?_ _) | (refine RowAt.setOther ?_ _ _ (by (first | omega | (simp; done) | (simp; omega) | (simp at *; omega)))) | (refine RowAt.drew ?_)))
  have bx : RowAt W (w.heap.size + 5) 25 [.int .i64 f, v] := by rw [hW]; exact (by repeat (first | assumption | exact RowAt.new_at _ _ _ _ (by (first | omega | (simp; done) | (simp; omega) | (simp at *; omega))) | (refine RowAt.alloc ?_ _) | (refine RowAt.gr ?_ _) | (refine RowAt.setOther ?_ _ _ (by (first | omega | (simp; done) | (simp; omega) | (simp at *; omega)))) | (refine RowAt.drew ?_)))
  clear hW
  obtain ⟨x0c0, x0c1, x0f0, x0f1, x0l⟩ := x0.two
  obtain ⟨plc0, plf0, pll⟩ := pl.one
  obtain ⟨o1c0, o1f0, o1l⟩ := o1.one
  obtain ⟨o2c0, o2f0, o2l⟩ := o2.one
  obtain ⟨o3c0, o3f0, o3l⟩ := o3.one
  obtain ⟨bxc0, bxc1, bxf0, bxf1, bxl⟩ := bx.two
  have hLW := hL.at_ hBW
  have hvb : ∀ k, (L ≠ [] ∧ v.ownBlock = some k) → k < w.heap.size := fun k ⟨hne, hk⟩ => by
    obtain ⟨n1, n2, ⟨a, rfl, rfl⟩ | ⟨a, off, cap, rfl, n3, n4, n5⟩⟩ := hL
    · exact absurd rfl hne
    · simp [Value.ownBlock] at hk; omega
  have hS0 : SelRows W w.heap.size f v x none := ⟨x0, pl, o1, o2, o3⟩
  have hBs := hBW.size
  generalize hks : w.heap.size = k at *
  clear x0c0 x0c1 x0f0 x0f1 x0l plc0 plf0 pll o1c0 o1f0 o1l o2c0 o2f0 o2l o3c0 o3f0 o3l x0 pl o1 o2 o3
  refine (wpIn_wide (n := 9)).1 ?_
  refine wpIn_rangeFunc_ownH (F := Fence.wide) (n := 9) rfl (by omega) (gf := 49) (lb := #[.pointer (some ⟨k + 1 + 1 + 1 + 1 + 1, 0, none⟩)]) rfl trivial
    (enters_of Try.func49 (by kernel_rfl) rfl)
    (sums_stops 8 (k + 5) f v L W bx hLW) KeptAt.trans (KeptAt.putObj (by rintro j (rfl | hk); exact bxl; have := hvb j hk; omega)) (Below.refl _ _) (fun _ => rfl)
    (fun pre W' => (SelRows W' k f v x none ∧ RowAt W' (k + 5) 25 [.int .i64 f, v] ∧ Below k w W') ∧ ∀ y ∈ pre, y.2 ≤ x)
    (fun c pre W' => (c = .ret ∧ ∃ init y, pre = init ++ [y] ∧ (∀ z ∈ init, z.2 ≤ x) ∧ x < y.2 ∧ SelRows W' k f v x (boundsB f y.1.1)) ∧ Below k w W')
    (OwnFrom.and (OwnFrom.and (fun pre X Y row hs hg hr => hs.grown hg (fun r e => (hr r e).2)) (OwnFrom.and (fun pre X Y row hs hg hr => hs.grown hg (fun r e => (hr r e).2)) (ownFrom_below (by omega) (by omega)))) (fun _ _ _ _ hs _ _ => hs))
    (fun c => OwnFrom.and (fun pre X Y row hs hg hr => by
      obtain ⟨e1, i, y, e2, e3, e4, e5⟩ := hs
      exact ⟨e1, i, y, e2, e3, e4, e5.grown hg (fun r e => (hr r e).2)⟩) (ownFrom_below (by omega) (by omega)))
    ⟨⟨hS0, bx, hBW⟩, fun y hy => by cases hy⟩
    (fun y a' W' => ∃ kb, k + 5 < kb ∧ RowAt W' kb 65 [.int .i64 y.1.1, .int .u64 (y.1.2 : Nat)] ∧ a' = { tmps := #[HistV f v, .int .u64 x, .pointer (some ⟨k, 0, none⟩), .pointer (some ⟨k + 1, 0, none⟩), .pointer (some ⟨k + 1 + 1, 0, none⟩), .pointer (some ⟨k + 1 + 1 + 1, 0, none⟩), .pointer (some ⟨k + 1 + 1 + 1 + 1, 0, none⟩), .pointer (some ⟨kb, 0, none⟩), .int .u64 (y.2 : Nat), .agg #[.int .i64 f, v], .func (.func 49) #[] #[.pointer (some ⟨k + 1 + 1 + 1 + 1 + 1, 0, none⟩)], .agg #[.int .i64 y.1.1, .int .u64 (y.1.2 : Nat)], .int .u64 (y.2 : Nat), undef, undef, undef, undef, undef, undef, undef, undef, undef, undef, undef], defers := [] })
    (fun y a' _ X Y row hs hg hr => by obtain ⟨kb, e1, e2, e3⟩ := hs; exact ⟨kb, e1, e2.grown hg (fun r e => (hr r e).2), e3⟩)
    ?assign ?body ?done ?stop
  case assign =>
    rintro l pre y W' K ⟨⟨h1, h2, hB⟩, hle⟩ hK
    have h1s := h2.lt
    gi_wp2
    refine hK _ _ ((KeepsOthers.alloc _ _).from _) ?_ ⟨⟨h1.below ((Below.refl _ _).alloc (Nat.le_refl _) _) (by omega), h2.alloc _, hB.alloc (by omega) _⟩, hle⟩ ⟨W'.heap.size, h1s, RowAt.of_new _ _ _, rfl⟩
    rintro j (rfl | hk)
    · exact Below.heap_alloc _ _ _ h1s
    · exact Below.heap_alloc _ _ _ (by have := hvb j hk; omega)
  case body =>
    rintro l pre y a' W' hl hloop ⟨⟨h1, h2, hB⟩, hle⟩ ⟨kb, hkb, h4, rfl⟩ hlt
    obtain ⟨xc0, xc1, -, -, xl'⟩ := h1.1.two
    obtain ⟨pc0, -, pl'⟩ := h1.2.1.one
    obtain ⟨bc0, bc1, -, -, bl'⟩ := h4.two
    by_cases hy : y.2 ≤ x
    · have hy2 : (y.2 : Int) ≤ x := by omega
      gi_wp2
      exact ⟨KeepsFrom.refl _ _, fun _ _ => rfl, ⟨h1, h2, hB⟩, fun z hz => by
        rcases List.mem_append.1 hz with hz | hz
        · exact hle z hz
        · obtain rfl : z = y := by simpa using hz
          exact hy⟩
    · have hy2 : (x : Int) < y.2 := by omega
      have hbc := bounds_any f y.1.1 W'
      rw [bndRes_eq] at hbc
      generalize hob : boundsB f y.1.1 = ob at *
      gi_wp2
      refine ⟨trivial, ((free_round l).calls hbc).mono ?_⟩
      rintro e W2 ⟨rfl, hb⟩
      have hS2 := h1.below hb h1.size
      obtain ⟨c1, f1, l1⟩ := hS2.2.2.1.one
      obtain ⟨c2, f2, l2⟩ := hS2.2.2.2.1.one
      obtain ⟨c3, f3, l3⟩ := hS2.2.2.2.2.one
      gi_wp2
      refine ⟨KeepsFrom.trans (Y := W2) ⟨hb.size, fun j o _ hj _ => (hb.block j (Array.getElem?_eq_some_iff.1 hj).1).trans hj⟩ ((((KeepsOthers.setCell _ _ _).trans (KeepsOthers.setCell _ _ _)).trans (KeepsOthers.setCell _ _ _)).from _), ⟨rfl, pre, y, rfl, hle, by omega, ?_⟩, ?_⟩
      · rw [hob]; exact hS2.store
      · refine Below.setCell (Below.setCell (Below.setCell (hB.trans (hb.mono (by omega))) ?_ _) ?_ _) ?_ _
        all_goals
          dsimp only
          omega
  case done =>
    rintro D ys W' hD rfl ⟨⟨h1, h2, hB⟩, hle⟩ hK
    obtain ⟨c1, f1, l1⟩ := h1.2.2.1.one
    obtain ⟨c2, f2, l2⟩ := h1.2.2.2.1.one
    obtain ⟨c3, f3, l3⟩ := h1.2.2.2.2.one
    go_wp2
    refine bodyPostM_named (fun X hX => ?_)
    have hSX : SelRows X k f v x none := by rw [hX]; exact h1.store (o2 := none)
    have hKX : X.heap[D]? = some (Obj.deferred (some [])) := by
      rw [hX, Below.heap_setCell _ _ _ _ (by dsimp only; omega), Below.heap_setCell _ _ _ _ (by dsimp only; omega), Below.heap_setCell _ _ _ _ (by dsimp only; omega)]
      exact hK
    have hBX : Below k w X := by
      rw [hX]
      refine Below.setCell (Below.setCell (Below.setCell hB ?_ _) ?_ _) ?_ _
      all_goals
        dsimp only
        omega
    clear hX
    have hSP := hSX.putObj (D := D) (.deferred none) (by omega)
    obtain ⟨d1, -, e1⟩ := hSP.2.2.1.one
    obtain ⟨d2, -, e2⟩ := hSP.2.2.2.1.one
    obtain ⟨d3, -, e3⟩ := hSP.2.2.2.2.one
    have hsel : selectB f L x = none := by
      unfold selectB selTo
      rw [List.find?_eq_none.2 (fun z hz => by have := hle z hz; simp; omega)]
      rfl
    rw [hks] at *
    exact bodyPostM_ret1 (v := .tuple #[.int .u64 0, .int .u64 0, .bool false]) hKX (by simp [results, Try.f24, go_sem, d1, d2, d3, e1, e2, e3, bLo, bHi]) rfl ⟨by rw [hsel]; rfl, below_putObj' hBX hKX (by omega)⟩
  case stop =>
    rintro D c pre W' hD hpre ⟨⟨rfl, i, y, rfl, hi, hy, hS⟩, hB⟩ hK
    have hSP := hS.putObj (D := D) (.deferred none) (by omega)
    obtain ⟨d1, -, e1⟩ := hSP.2.2.1.one
    obtain ⟨d2, -, e2⟩ := hSP.2.2.2.1.one
    obtain ⟨d3, -, e3⟩ := hSP.2.2.2.2.one
    have hsel : selectB f L x = boundsB f y.1.1 := by
      obtain ⟨t, ht⟩ := hpre
      unfold selectB selTo
      rw [← ht, find_append_one i y t (fun z hz => by have := hi z hz; simp; omega) (by simpa using hy)]
      rfl
    generalize boundsB f y.1.1 = ob at *
    gi_wp2
    exact bodyPostM_ret1 (v := .tuple #[.int .u64 (bLo ob), .int .u64 (bHi ob), .bool ob.isSome]) hK (by simp [results, Try.f24, go_sem, d1, d2, d3, e1, e2, e3]) rfl ⟨by rw [hsel, bndRes_eq], by rw [hks]; exact below_putObj' hB hK (by omega)⟩
end Go.Proofs.Ytnoemopaplopdaa
