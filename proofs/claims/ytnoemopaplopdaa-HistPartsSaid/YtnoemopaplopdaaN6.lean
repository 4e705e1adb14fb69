/- The walk of the law HistParts: the values turned. -/
import Derived.Test.YtnoemopaplopdaaN5
namespace Go.Proofs.Ytnoemopaplopdaa
open Go.RowKit Go.Maps

def itemCells (I : List (Nat × Nat)) : List Value := I.flatMap fun p => [.int .u64 (p.1 : Nat), .int .u64 (p.2 : Nat)]
theorem itemCells_snoc (L : List (Nat × Nat)) (p : Nat × Nat) : itemCells (L ++ [p]) = itemCells L ++ [.int .u64 (p.1 : Nat), .int .u64 (p.2 : Nat)] := by
  simp [itemCells]
theorem itemCells_get : ∀ (L : List (Nat × Nat)) (i : Nat) (h : i < L.length), (itemCells L)[i * 2]? = some (.int .u64 (L[i].1 : Nat)) ∧ (itemCells L)[i * 2 + 1]? = some (.int .u64 (L[i].2 : Nat))
  | p :: L, 0, _ => by simp [itemCells]
  | p :: L, i + 1, h => by
    have := itemCells_get L i (by simpa using h)
    have e : itemCells (p :: L) = .int .u64 (p.1 : Nat) :: .int .u64 (p.2 : Nat) :: itemCells L := by simp [itemCells]
    rw [e, show (i + 1) * 2 = i * 2 + 1 + 1 by omega]
    simpa using this
theorem ItemsAt.of_own {w : World} {base : Nat} {T : TypeId} {v : Value} {L : List (Nat × Nat)} (h : w.ownsRow base T 2 v L.length (itemCells L)) (hL : ∀ b ∈ L, b.1 < 18446744073709551616 ∧ b.2 < 18446744073709551616) (hl : L.length ≤ 4611686018427387904) : ItemsAt w.heap.size w v L := by
  obtain ⟨h1, ⟨rfl, h2⟩ | ⟨g, cap, cur, rfl, h3, h4, h5, h6, h7, h8⟩⟩ := h
  · obtain rfl := List.eq_nil_of_length_eq_zero h2
    exact ⟨hL, hl, none, 0, rfl, by simp, fun h => absurd rfl h⟩
  · refine ⟨hL, hl, _, cap, rfl, h5, fun _ => ⟨g, 0, rfl, (Array.getElem?_eq_some_iff.1 h4).1, fun i hi => ?_⟩⟩
    have r : RowAt w g T (itemCells L) := ⟨cur, 0, 0, h4, .inl rfl, by rw [h1]; exact h8⟩
    obtain ⟨e1, e2⟩ := itemCells_get L i hi
    obtain ⟨l1, e1⟩ := List.getElem?_eq_some_iff.1 e1
    obtain ⟨l2, e2⟩ := List.getElem?_eq_some_iff.1 e2
    rw [Nat.zero_add]
    exact ⟨by rw [← e1]; exact r.cell _ l1, by rw [← e2]; exact r.cell _ l2⟩
theorem ItemsAt.drop1 {B A : Nat} {w : World} {p : Option Addr} {cap : Nat} {J : List (Nat × Nat)} (h : ItemsAt B w (.slice p J.length cap) J) (hc : cap = A) (hA : A ≤ J.length) : ItemsAt B w (.slice p 0 0) (J.drop A) := by
  obtain ⟨h1, h2, p', cap', h3, h4, h5⟩ := h
  have h6 : p = p' ∧ cap = cap' := by simpa using h3
  obtain ⟨rfl, rfl⟩ := h6
  have hn : J.drop A = [] := List.drop_eq_nil_of_le (by omega)
  rw [hn]
  exact ⟨by simp, by simp, p, 0, rfl, by simp, fun h => absurd rfl h⟩
theorem ItemsAt.drop2 {B A : Nat} {w : World} {p : Option Addr} {cap : Nat} {J : List (Nat × Nat)} (h : ItemsAt B w (.slice p J.length cap) J) (hc : cap ≠ A) (hA : A ≤ J.length) : ItemsAt B w (.slice (Option.map (fun x => x.add (A * 2)) p) (J.length - A) (cap - A)) (J.drop A) := by
  obtain ⟨h1, h2, p', cap', h3, h4, h5⟩ := h
  have h6 : p = p' ∧ cap = cap' := by simpa using h3
  obtain ⟨rfl, rfl⟩ := h6
  refine ⟨fun b hb => h1 b (List.mem_of_mem_drop hb), by simp; omega, Option.map (fun x => x.add (A * 2)) p, cap - A, by simp, by simp; omega, fun hne => ?_⟩
  obtain ⟨a, off, rfl, e2, e3⟩ := h5 (by rintro rfl; simp at hne)
  refine ⟨a, off + A * 2, ?_, e2, fun i hi => ?_⟩
  · by_cases h0 : A = 0
    · subst h0; simp [Addr.add]
    · have h1 : A * 2 ≠ 0 := by omega
      simp [Addr.add, h1]
  · rw [List.length_drop] at hi
    have := e3 (A + i) (by omega)
    rw [Nat.add_mul, ← Nat.add_assoc] at this
    simpa using this
theorem parts_law_no (f at_ : Int) (l : Value) (w : World) (h : fineB f = false) :
    Calls Try.prog 8 #[.int .i64 f, l, .int .i64 at_] w fun e w' => e = .returned (.bool true) ∧ Below w.heap.size w w' := by
  have hd := fine_no h
  rcases Classical.em (f < 0) with h1 | h1
  all_goals
    go_enter Try.func8, Try.ntmps8
    go_wp2_with fail
    with_reducible refine Calls.mono (Calls.gr0 (shown_any _)) ?_
    rintro e w' ⟨rfl, g, rfl⟩
    have hgl := g.le
    try simp only [World.size_alloc] at hgl
    try simp only [World.size_setCell] at hgl
    go_wp2_with fail
    go_ret
    exact ⟨rfl, (by repeat (first | exact Below.refl _ _ | assumption | (refine Below.setCell ?_ (by (first | omega | (simp; done) | (simp; omega) | (simp at *; omega))) _) | (refine Below.alloc ?_ (by (first | omega | (simp; done) | (simp; omega) | (simp at *; omega))) _) | (refine Below.drew ?_) | (refine Gr.into _ ?_ (by (first | omega | (simp; done) | (simp; omega) | (simp at *; omega))))))⟩
set_option maxRecDepth 100000 in
set_option maxHeartbeats 2000000 in
theorem parts_law_yes (f A : Nat) (at_ : Int) (p : Option Addr) (n cap : Nat) (J : List (Nat × Nat)) (w : World) (h : f ≤ 3) (hmin : min (n : Int) 100 = (J.length : Nat)) (hA : max 0 (min at_ (J.length : Nat)) = (A : Nat)) (hJ : ItemsAt w.heap.size w (.slice p J.length cap) J) (hJc : J.length ≤ cap) (hJl : J.length ≤ 100) :
    Calls Try.prog 8 #[.int .i64 f, .slice p n cap, .int .i64 at_] w fun e w' => e = .returned (.bool true) ∧ Below w.heap.size w w' := by
  have hfi : (f : Int) ≤ 3 := by omega
  have hAl : A ≤ J.length := by omega
  have hJc2 : (J.length : Int) ≤ cap := by omega
  have hlo : (0 : Int) ≤ J.length := by omega
  have hw1 : wrap64 ((J.length : Int) - 1) = (J.length : Int) - 1 := by unfold wrap64; omega
  have c1 := ofL_canon (f := f) h hJ.lt
  have t2 : ∀ x ∈ J.take A, x.1 < 2 ^ 64 := fun x hx => hJ.lt x (List.mem_of_mem_take hx)
  have t3 : ∀ x ∈ J.drop A, x.1 < 2 ^ 64 := fun x hx => hJ.lt x (List.mem_of_mem_drop hx)
  have c2 := ofL_canon (f := f) h t2
  have c3 := ofL_canon (f := f) h t3
  have l1 := ofL_length f J
  have l2 := ofL_length f (J.take A)
  have l3 := ofL_length f (J.drop A)
  have hlt : (J.take A).length = A := by simp; omega
  have hld : (J.drop A).length = J.length - A := by simp
  have k1 : ∀ W, Below w.heap.size w W → Calls Try.prog 27 #[.int .i64 f, .slice p J.length cap] W fun e w' => ∃ v', e = histRes f v' 0 ∧ BinsAt w'.heap.size w' v' (ofL f J) ∧ Below W.heap.size W w' := fun W hW => of_any f _ J W h (hJ.at_ hW) (by omega)
  have kA : ∀ W, Below w.heap.size w W → Calls Try.prog 27 #[.int .i64 f, .slice p A cap] W fun e w' => ∃ v', e = histRes f v' 0 ∧ BinsAt w'.heap.size w' v' (ofL f (J.take A)) ∧ Below W.heap.size W w' := fun W hW => by
    have hi := (hJ.take A).at_ hW
    rw [hlt] at hi
    exact of_any f _ _ W h hi (by omega)
  have kB : ∀ vB W, ItemsAt w.heap.size w vB (J.drop A) → Below w.heap.size w W → Calls Try.prog 27 #[.int .i64 f, vB] W fun e w' => ∃ v', e = histRes f v' 0 ∧ BinsAt w'.heap.size w' v' (ofL f (J.drop A)) ∧ Below W.heap.size W w' := fun vB W hv hW => of_any f _ _ W h (hv.at_ hW) (by omega)
  have km23 : ∀ y z W, BinsAt W.heap.size W y (ofL f (J.take A)) → BinsAt W.heap.size W z (ofL f (J.drop A)) → Calls Try.prog 25 #[HistV f y, HistV f z] W fun e w' => ∃ v', e = histRes f v' 0 ∧ BinsAt w'.heap.size w' v' (ofL f J) ∧ Below W.heap.size W w' := fun y z W hy hz => by
    have := hMerge_yes f y z _ _ W hy hz c2.right c3.right (by omega) (by omega)
    rwa [merge_ofL h t2 t3, List.take_append_drop] at this
  have km32 : ∀ y z W, BinsAt W.heap.size W y (ofL f (J.drop A)) → BinsAt W.heap.size W z (ofL f (J.take A)) → Calls Try.prog 25 #[HistV f y, HistV f z] W fun e w' => ∃ v', e = histRes f v' 0 ∧ BinsAt w'.heap.size w' v' (ofL f J) ∧ Below W.heap.size W w' := fun y z W hy hz => by
    have := hMerge_yes f y z _ _ W hy hz c3.right c2.right (by omega) (by omega)
    rwa [merge_ofL h t3 t2, ofL_perm h (J := J) (fun x hx => (List.mem_append.1 hx).elim (t3 x) (t2 x)) (by have := List.perm_append_comm (l₁ := J.drop A) (l₂ := J.take A); rwa [List.take_append_drop] at this)] at this
  have ks : ∀ y z W, BinsAt W.heap.size W y (ofL f J) → BinsAt W.heap.size W z (ofL f J) → Calls Try.prog 28 #[HistV f y, HistV f z] W fun e w' => e = .returned (.bool true) ∧ Below W.heap.size W w' := fun y z W hy hz => by
    have := hSame_any f f y z _ _ W hy hz
    rwa [show sameH f f (ofL f J) (ofL f J) = true by simp [sameH]] at this
  have kr : ∀ y W, BinsAt W.heap.size W y (ofL f J) → Calls Try.prog 19 #[HistV f y] W fun e w' => e = .returned (.bool true) ∧ Below W.heap.size W w' := fun y W hy => by
    have := right_any f y _ W hy
    rwa [c1.right] at this
  clear c1 c2 c3
  go_enter Try.func8, Try.ntmps8
  go_wp2_with fail
  with_reducible refine Calls.mono (Calls.gr0 (shown_any _)) ?_
  rintro e w' ⟨rfl, g, rfl⟩
  have hgl := g.le
  try simp only [World.size_alloc] at hgl
  try simp only [World.size_setCell] at hgl
  go_wp2_with fail
  refine wp_named (fun V hV => ?_)
  have hBV : Below w.heap.size w V := by rw [hV]; exact (by repeat (first | exact Below.refl _ _ | assumption | (refine Below.setCell ?_ (by (first | omega | (simp; done) | (simp; omega) | (simp at *; omega))) _) | (refine Below.alloc ?_ (by (first | omega | (simp; done) | (simp; omega) | (simp at *; omega))) _) | (refine Below.drew ?_) | (refine Gr.into _ ?_ (by (first | omega | (simp; done) | (simp; omega) | (simp at *; omega))))))
  clear hV
  clear hgl g
  have hVs := hBV.size
  go_loopw [8, 9] (fun v i wr => ∃ k : Nat, k ≤ J.length ∧ i = .int .i64 ((J.length : Int) - 1 - k) ∧ wr.ownsRow V.heap.size 50 2 v k (itemCells (J.reverse.take k)) ∧ Below V.heap.size V wr)
    (fun _ i _ => (intOf i + 1).toNat)
  case atStart => exact ⟨0, by omega, by simp, World.ownsRow_nil _ _ _ _, Below.refl _ _⟩
  case round =>
    obtain ⟨k, hk, rfl, hown, hB⟩ := hrel
    have hBs := hB.size
    by_cases hlk : k < J.length
    · obtain ⟨p', cap', hpe, -, hcells⟩ := hJ.2.2
      have hpe2 : p = p' ∧ cap = cap' := by simpa using hpe
      obtain ⟨rfl, rfl⟩ := hpe2
      obtain ⟨a, off, rfl, ha, hc⟩ := hcells (by rintro rfl; simp at hlk)
      obtain ⟨hc0, hc1⟩ := hc (J.length - 1 - k) (by omega)
      have hbw : Below w.heap.size w wr := hBV.trans (hB.mono hVs)
      rw [← hbw.cell (p := ⟨a, off + (J.length - 1 - k) * 2, none⟩) ha] at hc0
      rw [← hbw.cell (p := ⟨a, off + (J.length - 1 - k) * 2 + 1, none⟩) ha] at hc1
      have hal : a < wr.heap.size := by have := hbw.size; omega
      have hidx : (J.length : Int) - 1 - k = ((J.length - 1 - k : Nat) : Int) := by omega
      have hrev : J.reverse.take (k + 1) = J.reverse.take k ++ [J[J.length - 1 - k]] := by
        rw [List.take_succ_eq_append_getElem (by simpa using hlk), List.getElem_reverse]
      have htake : itemCells (J.reverse.take (k + 1)) = itemCells (J.reverse.take k) ++ [.int .u64 (J[J.length - 1 - k].1 : Nat), .int .u64 (J[J.length - 1 - k].2 : Nat)] := by
        rw [hrev, itemCells_snoc]
      have HT := Lib.hid htake
      have hnext : wrap64 (((J.length - 1 - k : Nat) : Int) - 1) = (J.length : Int) - 1 - (k + 1 : Nat) := by unfold wrap64; omega
      have hib : ((J.length - 1 - k : Nat) : Int) < (J.length : Nat) := by omega
      rw [hidx]
      clear htake hrev hcells hpe hc
      generalize J[J.length - 1 - k] = y at *
      generalize J.length - 1 - k = x at *
      obtain ⟨y1, y2⟩ := y
      have hownX := World.ownsRow.alloc hown (.cells #[.int .u64 y1, .int .u64 y2] 50)
      have rX : RowAt (wr.alloc (.cells #[.int .u64 y1, .int .u64 y2] 50)) wr.heap.size 50 [.int .u64 y1, .int .u64 y2] := RowAt.of_new _ _ _
      have hcX : ∀ (j : Nat) (u : Value), ([.int .u64 y1, .int .u64 y2] : List Value)[j]? = some u → (wr.alloc (.cells #[.int .u64 y1, .int .u64 y2] 50)).cell? ((⟨wr.heap.size, 0, none⟩ : Addr).add j) = some u := fun j u hj => by
        obtain ⟨hlt, rfl⟩ := List.getElem?_eq_some_iff.1 hj
        have e : (⟨wr.heap.size, 0, none⟩ : Addr).add j = ⟨wr.heap.size, j, none⟩ := by by_cases h0 : j = 0 <;> simp [Addr.add, h0]
        rw [e]; exact rX.cell j hlt
      go_wp2_with (at_builtin; refine wpList_append_own _ rfl _ _ 46 rfl V.heap.size 50 _ (.agg #[.int .u64 0, .int .u64 0]) 2 16 rfl rfl rfl rfl rfl rfl (by omega) _ k _ rfl hownX ⟨wr.heap.size, 0, none⟩ 1 1 [.int .u64 y1, .int .u64 y2] rfl rfl hcX (fun u hu => by simp at hu; rcases hu with rfl | rfl <;> rfl) (by unfold maxLen; omega) (by omega) (by simp; omega) ?_; intro v' Y hownY hgY _)
      go_roundw
      case rel => exact ⟨k + 1, by omega, by go_num, by rw [HT.out]; exact hownY, (hB.alloc hBs _).grown hgY (by simp; omega) (fun b e => (hown.lt b e).1)⟩
      case measure => first | (simp [intOf]; done) | (simp [intOf]; omega)
    · obtain rfl : k = J.length := by omega
      rw [List.take_of_length_le (by simp)] at hown
      have hbw : Below w.heap.size w wr := hBV.trans (hB.mono hVs)
      have hlr : J.reverse.length = J.length := by simp
      have hT : ItemsAt wr.heap.size wr u8 J.reverse := ItemsAt.of_own (by rw [hlr]; exact hown) (fun b hb => hJ.1 b (by simpa using hb)) (by omega)
      have kT : ∀ W, ItemsAt W.heap.size W u8 J.reverse → Calls Try.prog 27 #[.int .i64 f, u8] W fun e w' => ∃ v', e = histRes f v' 0 ∧ BinsAt w'.heap.size w' v' (ofL f J) ∧ Below W.heap.size W w' := fun W hW => by
        have := of_any f u8 J.reverse W h hW (by omega)
        rwa [ofL_perm h (I := J.reverse) (J := J) (fun x hx => hJ.lt x (by simpa using hx)) (List.reverse_perm J)] at this
      generalize hB1 : ofL f J = B1 at *
      generalize hB2 : ofL f (J.take A) = B2 at *
      generalize hB3 : ofL f (J.drop A) = B3 at *
      clear hB1 hB2 hB3
      by_cases hcA : cap = A
      · have hvB := (hJ.drop1 hcA hAl)
        subst hcA
        go_wp2_with fail
        have hB0 := hbw
        have hBT : Below wr.heap.size wr wr := Below.refl _ _
        refine Calls.mono (k1 _ hB0) ?_
        rintro e D1 ⟨v1, rfl, hv1, hd1⟩
        obtain ⟨p1, q1, he1, -⟩ := hv1.form
        subst he1
        have hE1 : Below w.heap.size w D1 := hB0.trans (hd1.mono hB0.size)
        have hF1 : Below wr.heap.size wr D1 := hBT.trans (hd1.mono hBT.size)
        have hEs1 := hE1.size
        go_wp2_with fail
        refine Calls.named (fun C1 hC1 => ?_)
        have hBC1 : Below D1.heap.size D1 C1 := by rw [hC1]; exact (by repeat (first | exact Below.refl _ _ | assumption | (refine Below.setCell ?_ (by (first | omega | (simp; done) | (simp; omega) | (simp at *; omega))) _) | (refine Below.alloc ?_ (by (first | omega | (simp; done) | (simp; omega) | (simp at *; omega))) _) | (refine Below.drew ?_) | (refine Gr.into _ ?_ (by (first | omega | (simp; done) | (simp; omega) | (simp at *; omega))))))
        have x1_1 : RowAt C1 (D1.heap.size) 25 [.int .i64 f, .slice p1 B1.length q1] := by rw [hC1]; exact (by repeat (first | assumption | exact RowAt.new_at _ _ _ _ (by (first | omega | (simp; done) | (simp; omega) | (simp at *; omega))) | (refine RowAt.alloc ?_ _) | (refine RowAt.gr ?_ _) | (refine RowAt.setOther ?_ _ _ (by (first | omega | (simp; done) | (simp; omega) | (simp at *; omega)))) | (refine RowAt.drew ?_)))
        clear hC1
        obtain ⟨x1_1c0, x1_1c1, x1_1f0, x1_1f1, x1_1l⟩ := x1_1.two
        have b1_1 := hv1.at_ hBC1
        have hB1 : Below w.heap.size w C1 := hE1.trans (hBC1.mono hE1.size)
        have hG1 : Below wr.heap.size wr C1 := hF1.trans (hBC1.mono hF1.size)
        refine Calls.mono (kA _ hB1) ?_
        rintro e D2 ⟨v2, rfl, hv2, hd2⟩
        obtain ⟨p2, q2, he2, -⟩ := hv2.form
        subst he2
        have y1_2 := x1_1.below hd2 x1_1l
        obtain ⟨y1_2c0, y1_2c1, y1_2f0, y1_2f1, y1_2l⟩ := y1_2.two
        have c1_2 := b1_1.at_ hd2
        have hE2 : Below w.heap.size w D2 := hB1.trans (hd2.mono hB1.size)
        have hF2 : Below wr.heap.size wr D2 := hG1.trans (hd2.mono hG1.size)
        have hEs2 := hE2.size
        go_wp2_with fail
        refine Calls.named (fun C2 hC2 => ?_)
        have hBC2 : Below D2.heap.size D2 C2 := by rw [hC2]; exact (by repeat (first | exact Below.refl _ _ | assumption | (refine Below.setCell ?_ (by (first | omega | (simp; done) | (simp; omega) | (simp at *; omega))) _) | (refine Below.alloc ?_ (by (first | omega | (simp; done) | (simp; omega) | (simp at *; omega))) _) | (refine Below.drew ?_) | (refine Gr.into _ ?_ (by (first | omega | (simp; done) | (simp; omega) | (simp at *; omega))))))
        have x1_2 : RowAt C2 (D1.heap.size) 25 [.int .i64 f, .slice p1 B1.length q1] := by rw [hC2]; exact (by repeat (first | assumption | exact RowAt.new_at _ _ _ _ (by (first | omega | (simp; done) | (simp; omega) | (simp at *; omega))) | (refine RowAt.alloc ?_ _) | (refine RowAt.gr ?_ _) | (refine RowAt.setOther ?_ _ _ (by (first | omega | (simp; done) | (simp; omega) | (simp at *; omega)))) | (refine RowAt.drew ?_)))
        have x2_2 : RowAt C2 (D2.heap.size) 25 [.int .i64 f, .slice p2 B2.length q2] := by rw [hC2]; exact (by repeat (first | assumption | exact RowAt.new_at _ _ _ _ (by (first | omega | (simp; done) | (simp; omega) | (simp at *; omega))) | (refine RowAt.alloc ?_ _) | (refine RowAt.gr ?_ _) | (refine RowAt.setOther ?_ _ _ (by (first | omega | (simp; done) | (simp; omega) | (simp at *; omega)))) | (refine RowAt.drew ?_)))
        clear hC2
        obtain ⟨x1_2c0, x1_2c1, x1_2f0, x1_2f1, x1_2l⟩ := x1_2.two
        obtain ⟨x2_2c0, x2_2c1, x2_2f0, x2_2f1, x2_2l⟩ := x2_2.two
        have b1_2 := c1_2.at_ hBC2
        have b2_2 := hv2.at_ hBC2
        have hB2 : Below w.heap.size w C2 := hE2.trans (hBC2.mono hE2.size)
        have hG2 : Below wr.heap.size wr C2 := hF2.trans (hBC2.mono hF2.size)
        refine Calls.mono (kB _ _ hvB hB2) ?_
        rintro e D3 ⟨v3, rfl, hv3, hd3⟩
        obtain ⟨p3, q3, he3, -⟩ := hv3.form
        subst he3
        have y1_3 := x1_2.below hd3 x1_2l
        obtain ⟨y1_3c0, y1_3c1, y1_3f0, y1_3f1, y1_3l⟩ := y1_3.two
        have y2_3 := x2_2.below hd3 x2_2l
        obtain ⟨y2_3c0, y2_3c1, y2_3f0, y2_3f1, y2_3l⟩ := y2_3.two
        have c1_3 := b1_2.at_ hd3
        have c2_3 := b2_2.at_ hd3
        have hE3 : Below w.heap.size w D3 := hB2.trans (hd3.mono hB2.size)
        have hF3 : Below wr.heap.size wr D3 := hG2.trans (hd3.mono hG2.size)
        have hEs3 := hE3.size
        go_wp2_with fail
        refine Calls.named (fun C3 hC3 => ?_)
        have hBC3 : Below D3.heap.size D3 C3 := by rw [hC3]; exact (by repeat (first | exact Below.refl _ _ | assumption | (refine Below.setCell ?_ (by (first | omega | (simp; done) | (simp; omega) | (simp at *; omega))) _) | (refine Below.alloc ?_ (by (first | omega | (simp; done) | (simp; omega) | (simp at *; omega))) _) | (refine Below.drew ?_) | (refine Gr.into _ ?_ (by (first | omega | (simp; done) | (simp; omega) | (simp at *; omega))))))
        have x1_3 : RowAt C3 (D1.heap.size) 25 [.int .i64 f, .slice p1 B1.length q1] := by rw [hC3]; exact (by repeat (first | assumption | exact RowAt.new_at _ _ _ _ (by (first | omega | (simp; done) | (simp; omega) | (simp at *; omega))) | (refine RowAt.alloc ?_ _) | (refine RowAt.gr ?_ _) | (refine RowAt.setOther ?_ _ _ (by (first | omega | (simp; done) | (simp; omega) | (simp at *; omega)))) | (refine RowAt.drew ?_)))
        have x2_3 : RowAt C3 (D2.heap.size) 25 [.int .i64 f, .slice p2 B2.length q2] := by rw [hC3]; exact (by repeat (first | assumption | exact RowAt.new_at _ _ _ _ (by (first | omega | (simp; done) | (simp; omega) | (simp at *; omega))) | (refine RowAt.alloc ?_ _) | (refine RowAt.gr ?_ _) | (refine RowAt.setOther ?_ _ _ (by (first | omega | (simp; done) | (simp; omega) | (simp at *; omega)))) | (refine RowAt.drew ?_)))
        have x3_3 : RowAt C3 (D3.heap.size) 25 [.int .i64 f, .slice p3 B3.length q3] := by rw [hC3]; exact (by repeat (first | assumption | exact RowAt.new_at _ _ _ _ (by (first | omega | (simp; done) | (simp; omega) | (simp at *; omega))) | (refine RowAt.alloc ?_ _) | (refine RowAt.gr ?_ _) | (refine RowAt.setOther ?_ _ _ (by (first | omega | (simp; done) | (simp; omega) | (simp at *; omega)))) | (refine RowAt.drew ?_)))
        clear hC3
        obtain ⟨x1_3c0, x1_3c1, x1_3f0, x1_3f1, x1_3l⟩ := x1_3.two
        obtain ⟨x2_3c0, x2_3c1, x2_3f0, x2_3f1, x2_3l⟩ := x2_3.two
        obtain ⟨x3_3c0, x3_3c1, x3_3f0, x3_3f1, x3_3l⟩ := x3_3.two
        have b1_3 := c1_3.at_ hBC3
        have b2_3 := c2_3.at_ hBC3
        have b3_3 := hv3.at_ hBC3
        have hB3 : Below w.heap.size w C3 := hE3.trans (hBC3.mono hE3.size)
        have hG3 : Below wr.heap.size wr C3 := hF3.trans (hBC3.mono hF3.size)
        refine Calls.mono (kT _ (hT.at_ hG3)) ?_
        rintro e D4 ⟨v4, rfl, hv4, hd4⟩
        obtain ⟨p4, q4, he4, -⟩ := hv4.form
        subst he4
        have y1_4 := x1_3.below hd4 x1_3l
        obtain ⟨y1_4c0, y1_4c1, y1_4f0, y1_4f1, y1_4l⟩ := y1_4.two
        have y2_4 := x2_3.below hd4 x2_3l
        obtain ⟨y2_4c0, y2_4c1, y2_4f0, y2_4f1, y2_4l⟩ := y2_4.two
        have y3_4 := x3_3.below hd4 x3_3l
        obtain ⟨y3_4c0, y3_4c1, y3_4f0, y3_4f1, y3_4l⟩ := y3_4.two
        have c1_4 := b1_3.at_ hd4
        have c2_4 := b2_3.at_ hd4
        have c3_4 := b3_3.at_ hd4
        have hE4 : Below w.heap.size w D4 := hB3.trans (hd4.mono hB3.size)
        have hF4 : Below wr.heap.size wr D4 := hG3.trans (hd4.mono hG3.size)
        have hEs4 := hE4.size
        go_wp2_with fail
        refine Calls.named (fun C4 hC4 => ?_)
        have hBC4 : Below D4.heap.size D4 C4 := by rw [hC4]; exact (by repeat (first | exact Below.refl _ _ | assumption | (refine Below.setCell ?_ (by (first | omega | (simp; done) | (simp; omega) | (simp at *; omega))) _) | (refine Below.alloc ?_ (by (first | omega | (simp; done) | (simp; omega) | (simp at *; omega))) _) | (refine Below.drew ?_) | (refine Gr.into _ ?_ (by (first | omega | (simp; done) | (simp; omega) | (simp at *; omega))))))
        have x1_4 : RowAt C4 (D1.heap.size) 25 [.int .i64 f, .slice p1 B1.length q1] := by rw [hC4]; exact (by repeat (first | assumption | exact RowAt.new_at _ _ _ _ (by (first | omega | (simp; done) | (simp; omega) | (simp at *; omega))) | (refine RowAt.alloc ?_ _) | (refine RowAt.gr ?_ _) | (refine RowAt.setOther ?_ _ _ (by (first | omega | (simp; done) | (simp; omega) | (simp at *; omega)))) | (refine RowAt.drew ?_)))
        have x2_4 : RowAt C4 (D2.heap.size) 25 [.int .i64 f, .slice p2 B2.length q2] := by rw [hC4]; exact (by repeat (first | assumption | exact RowAt.new_at _ _ _ _ (by (first | omega | (simp; done) | (simp; omega) | (simp at *; omega))) | (refine RowAt.alloc ?_ _) | (refine RowAt.gr ?_ _) | (refine RowAt.setOther ?_ _ _ (by (first | omega | (simp; done) | (simp; omega) | (simp at *; omega)))) | (refine RowAt.drew ?_)))
        have x3_4 : RowAt C4 (D3.heap.size) 25 [.int .i64 f, .slice p3 B3.length q3] := by rw [hC4]; exact (by repeat (first | assumption | exact RowAt.new_at _ _ _ _ (by (first | omega | (simp; done) | (simp; omega) | (simp at *; omega))) | (refine RowAt.alloc ?_ _) | (refine RowAt.gr ?_ _) | (refine RowAt.setOther ?_ _ _ (by (first | omega | (simp; done) | (simp; omega) | (simp at *; omega)))) | (refine RowAt.drew ?_)))
        have x4_4 : RowAt C4 (D4.heap.size) 25 [.int .i64 f, .slice p4 B1.length q4] := by rw [hC4]; exact (by repeat (first | assumption | exact RowAt.new_at _ _ _ _ (by (first | omega | (simp; done) | (simp; omega) | (simp at *; omega))) | (refine RowAt.alloc ?_ _) | (refine RowAt.gr ?_ _) | (refine RowAt.setOther ?_ _ _ (by (first | omega | (simp; done) | (simp; omega) | (simp at *; omega)))) | (refine RowAt.drew ?_)))
        clear hC4
        obtain ⟨x1_4c0, x1_4c1, x1_4f0, x1_4f1, x1_4l⟩ := x1_4.two
        obtain ⟨x2_4c0, x2_4c1, x2_4f0, x2_4f1, x2_4l⟩ := x2_4.two
        obtain ⟨x3_4c0, x3_4c1, x3_4f0, x3_4f1, x3_4l⟩ := x3_4.two
        obtain ⟨x4_4c0, x4_4c1, x4_4f0, x4_4f1, x4_4l⟩ := x4_4.two
        have b1_4 := c1_4.at_ hBC4
        have b2_4 := c2_4.at_ hBC4
        have b3_4 := c3_4.at_ hBC4
        have b4_4 := hv4.at_ hBC4
        have hB4 : Below w.heap.size w C4 := hE4.trans (hBC4.mono hE4.size)
        have hG4 : Below wr.heap.size wr C4 := hF4.trans (hBC4.mono hF4.size)
        refine Calls.mono (km23 _ _ _ b2_4 b3_4) ?_
        rintro e D5 ⟨v5, rfl, hv5, hd5⟩
        obtain ⟨p5, q5, he5, -⟩ := hv5.form
        subst he5
        have y1_5 := x1_4.below hd5 x1_4l
        obtain ⟨y1_5c0, y1_5c1, y1_5f0, y1_5f1, y1_5l⟩ := y1_5.two
        have y2_5 := x2_4.below hd5 x2_4l
        obtain ⟨y2_5c0, y2_5c1, y2_5f0, y2_5f1, y2_5l⟩ := y2_5.two
        have y3_5 := x3_4.below hd5 x3_4l
        obtain ⟨y3_5c0, y3_5c1, y3_5f0, y3_5f1, y3_5l⟩ := y3_5.two
        have y4_5 := x4_4.below hd5 x4_4l
        obtain ⟨y4_5c0, y4_5c1, y4_5f0, y4_5f1, y4_5l⟩ := y4_5.two
        have c1_5 := b1_4.at_ hd5
        have c2_5 := b2_4.at_ hd5
        have c3_5 := b3_4.at_ hd5
        have c4_5 := b4_4.at_ hd5
        have hE5 : Below w.heap.size w D5 := hB4.trans (hd5.mono hB4.size)
        have hF5 : Below wr.heap.size wr D5 := hG4.trans (hd5.mono hG4.size)
        have hEs5 := hE5.size
        go_wp2_with fail
        refine Calls.named (fun C5 hC5 => ?_)
        have hBC5 : Below D5.heap.size D5 C5 := by rw [hC5]; exact (by repeat (first | exact Below.refl _ _ | assumption | (refine Below.setCell ?_ (by (first | omega | (simp; done) | (simp; omega) | (simp at *; omega))) _) | (refine Below.alloc ?_ (by (first | omega | (simp; done) | (simp; omega) | (simp at *; omega))) _) | (refine Below.drew ?_) | (refine Gr.into _ ?_ (by (first | omega | (simp; done) | (simp; omega) | (simp at *; omega))))))
        have x1_5 : RowAt C5 (D1.heap.size) 25 [.int .i64 f, .slice p1 B1.length q1] := by rw [hC5]; exact (by repeat (first | assumption | exact RowAt.new_at _ _ _ _ (by (first | omega | (simp; done) | (simp; omega) | (simp at *; omega))) | (refine RowAt.alloc ?_ _) | (refine RowAt.gr ?_ _) | (refine RowAt.setOther ?_ _ _ (by (first | omega | (simp; done) | (simp; omega) | (simp at *; omega)))) | (refine RowAt.drew ?_)))
        have x2_5 : RowAt C5 (D2.heap.size) 25 [.int .i64 f, .slice p2 B2.length q2] := by rw [hC5]; exact (by repeat (first | assumption | exact RowAt.new_at _ _ _ _ (by (first | omega | (simp; done) | (simp; omega) | (simp at *; omega))) | (refine RowAt.alloc ?_ _) | (refine RowAt.gr ?_ _) | (refine RowAt.setOther ?_ _ _ (by (first | omega | (simp; done) | (simp; omega) | (simp at *; omega)))) | (refine RowAt.drew ?_)))
        have x3_5 : RowAt C5 (D3.heap.size) 25 [.int .i64 f, .slice p3 B3.length q3] := by rw [hC5]; exact (by repeat (first | assumption | exact RowAt.new_at _ _ _ _ (by (first | omega | (simp; done) | (simp; omega) | (simp at *; omega))) | (refine RowAt.alloc ?_ _) | (refine RowAt.gr ?_ _) | (refine RowAt.setOther ?_ _ _ (by (first | omega | (simp; done) | (simp; omega) | (simp at *; omega)))) | (refine RowAt.drew ?_)))
        have x4_5 : RowAt C5 (D4.heap.size) 25 [.int .i64 f, .slice p4 B1.length q4] := by rw [hC5]; exact (by repeat (first | assumption | exact RowAt.new_at _ _ _ _ (by (first | omega | (simp; done) | (simp; omega) | (simp at *; omega))) | (refine RowAt.alloc ?_ _) | (refine RowAt.gr ?_ _) | (refine RowAt.setOther ?_ _ _ (by (first | omega | (simp; done) | (simp; omega) | (simp at *; omega)))) | (refine RowAt.drew ?_)))
        have x5_5 : RowAt C5 (D5.heap.size) 25 [.int .i64 f, .slice p5 B1.length q5] := by rw [hC5]; exact (by repeat (first | assumption | exact RowAt.new_at _ _ _ _ (by (first | omega | (simp; done) | (simp; omega) | (simp at *; omega))) | (refine RowAt.alloc ?_ _) | (refine RowAt.gr ?_ _) | (refine RowAt.setOther ?_ _ _ (by (first | omega | (simp; done) | (simp; omega) | (simp at *; omega)))) | (refine RowAt.drew ?_)))
        clear hC5
        obtain ⟨x1_5c0, x1_5c1, x1_5f0, x1_5f1, x1_5l⟩ := x1_5.two
        obtain ⟨x2_5c0, x2_5c1, x2_5f0, x2_5f1, x2_5l⟩ := x2_5.two
        obtain ⟨x3_5c0, x3_5c1, x3_5f0, x3_5f1, x3_5l⟩ := x3_5.two
        obtain ⟨x4_5c0, x4_5c1, x4_5f0, x4_5f1, x4_5l⟩ := x4_5.two
        obtain ⟨x5_5c0, x5_5c1, x5_5f0, x5_5f1, x5_5l⟩ := x5_5.two
        have b1_5 := c1_5.at_ hBC5
        have b2_5 := c2_5.at_ hBC5
        have b3_5 := c3_5.at_ hBC5
        have b4_5 := c4_5.at_ hBC5
        have b5_5 := hv5.at_ hBC5
        have hB5 : Below w.heap.size w C5 := hE5.trans (hBC5.mono hE5.size)
        have hG5 : Below wr.heap.size wr C5 := hF5.trans (hBC5.mono hF5.size)
        refine Calls.mono (km32 _ _ _ b3_5 b2_5) ?_
        rintro e D6 ⟨v6, rfl, hv6, hd6⟩
        obtain ⟨p6, q6, he6, -⟩ := hv6.form
        subst he6
        have y1_6 := x1_5.below hd6 x1_5l
        obtain ⟨y1_6c0, y1_6c1, y1_6f0, y1_6f1, y1_6l⟩ := y1_6.two
        have y2_6 := x2_5.below hd6 x2_5l
        obtain ⟨y2_6c0, y2_6c1, y2_6f0, y2_6f1, y2_6l⟩ := y2_6.two
        have y3_6 := x3_5.below hd6 x3_5l
        obtain ⟨y3_6c0, y3_6c1, y3_6f0, y3_6f1, y3_6l⟩ := y3_6.two
        have y4_6 := x4_5.below hd6 x4_5l
        obtain ⟨y4_6c0, y4_6c1, y4_6f0, y4_6f1, y4_6l⟩ := y4_6.two
        have y5_6 := x5_5.below hd6 x5_5l
        obtain ⟨y5_6c0, y5_6c1, y5_6f0, y5_6f1, y5_6l⟩ := y5_6.two
        have c1_6 := b1_5.at_ hd6
        have c2_6 := b2_5.at_ hd6
        have c3_6 := b3_5.at_ hd6
        have c4_6 := b4_5.at_ hd6
        have c5_6 := b5_5.at_ hd6
        have hE6 : Below w.heap.size w D6 := hB5.trans (hd6.mono hB5.size)
        have hF6 : Below wr.heap.size wr D6 := hG5.trans (hd6.mono hG5.size)
        have hEs6 := hE6.size
        go_wp2_with fail
        refine Calls.named (fun C6 hC6 => ?_)
        have hBC6 : Below D6.heap.size D6 C6 := by rw [hC6]; exact (by repeat (first | exact Below.refl _ _ | assumption | (refine Below.setCell ?_ (by (first | omega | (simp; done) | (simp; omega) | (simp at *; omega))) _) | (refine Below.alloc ?_ (by (first | omega | (simp; done) | (simp; omega) | (simp at *; omega))) _) | (refine Below.drew ?_) | (refine Gr.into _ ?_ (by (first | omega | (simp; done) | (simp; omega) | (simp at *; omega))))))
        have x1_6 : RowAt C6 (D1.heap.size) 25 [.int .i64 f, .slice p1 B1.length q1] := by rw [hC6]; exact (by repeat (first | assumption | exact RowAt.new_at _ _ _ _ (by (first | omega | (simp; done) | (simp; omega) | (simp at *; omega))) | (refine RowAt.alloc ?_ _) | (refine RowAt.gr ?_ _) | (refine RowAt.setOther ?_ _ _ (by (first | omega | (simp; done) | (simp; omega) | (simp at *; omega)))) | (refine RowAt.drew ?_)))
        have x2_6 : RowAt C6 (D2.heap.size) 25 [.int .i64 f, .slice p2 B2.length q2] := by rw [hC6]; exact (by repeat (first | assumption | exact RowAt.new_at _ _ _ _ (by (first | omega | (simp; done) | (simp; omega) | (simp at *; omega))) | (refine RowAt.alloc ?_ _) | (refine RowAt.gr ?_ _) | (refine RowAt.setOther ?_ _ _ (by (first | omega | (simp; done) | (simp; omega) | (simp at *; omega)))) | (refine RowAt.drew ?_)))
        have x3_6 : RowAt C6 (D3.heap.size) 25 [.int .i64 f, .slice p3 B3.length q3] := by rw [hC6]; exact (by repeat (first | assumption | exact RowAt.new_at _ _ _ _ (by (first | omega | (simp; done) | (simp; omega) | (simp at *; omega))) | (refine RowAt.alloc ?_ _) | (refine RowAt.gr ?_ _) | (refine RowAt.setOther ?_ _ _ (by (first | omega | (simp; done) | (simp; omega) | (simp at *; omega)))) | (refine RowAt.drew ?_)))
        have x4_6 : RowAt C6 (D4.heap.size) 25 [.int .i64 f, .slice p4 B1.length q4] := by rw [hC6]; exact (by repeat (first | assumption | exact RowAt.new_at _ _ _ _ (by (first | omega | (simp; done) | (simp; omega) | (simp at *; omega))) | (refine RowAt.alloc ?_ _) | (refine RowAt.gr ?_ _) | (refine RowAt.setOther ?_ _ _ (by (first | omega | (simp; done) | (simp; omega) | (simp at *; omega)))) | (refine RowAt.drew ?_)))
        have x5_6 : RowAt C6 (D5.heap.size) 25 [.int .i64 f, .slice p5 B1.length q5] := by rw [hC6]; exact (by repeat (first | assumption | exact RowAt.new_at _ _ _ _ (by (first | omega | (simp; done) | (simp; omega) | (simp at *; omega))) | (refine RowAt.alloc ?_ _) | (refine RowAt.gr ?_ _) | (refine RowAt.setOther ?_ _ _ (by (first | omega | (simp; done) | (simp; omega) | (simp at *; omega)))) | (refine RowAt.drew ?_)))
        have x6_6 : RowAt C6 (D6.heap.size) 25 [.int .i64 f, .slice p6 B1.length q6] := by rw [hC6]; exact (by repeat (first | assumption | exact RowAt.new_at _ _ _ _ (by (first | omega | (simp; done) | (simp; omega) | (simp at *; omega))) | (refine RowAt.alloc ?_ _) | (refine RowAt.gr ?_ _) | (refine RowAt.setOther ?_ _ _ (by (first | omega | (simp; done) | (simp; omega) | (simp at *; omega)))) | (refine RowAt.drew ?_)))
        clear hC6
        obtain ⟨x1_6c0, x1_6c1, x1_6f0, x1_6f1, x1_6l⟩ := x1_6.two
        obtain ⟨x2_6c0, x2_6c1, x2_6f0, x2_6f1, x2_6l⟩ := x2_6.two
        obtain ⟨x3_6c0, x3_6c1, x3_6f0, x3_6f1, x3_6l⟩ := x3_6.two
        obtain ⟨x4_6c0, x4_6c1, x4_6f0, x4_6f1, x4_6l⟩ := x4_6.two
        obtain ⟨x5_6c0, x5_6c1, x5_6f0, x5_6f1, x5_6l⟩ := x5_6.two
        obtain ⟨x6_6c0, x6_6c1, x6_6f0, x6_6f1, x6_6l⟩ := x6_6.two
        have b1_6 := c1_6.at_ hBC6
        have b2_6 := c2_6.at_ hBC6
        have b3_6 := c3_6.at_ hBC6
        have b4_6 := c4_6.at_ hBC6
        have b5_6 := c5_6.at_ hBC6
        have b6_6 := hv6.at_ hBC6
        have hB6 : Below w.heap.size w C6 := hE6.trans (hBC6.mono hE6.size)
        have hG6 : Below wr.heap.size wr C6 := hF6.trans (hBC6.mono hF6.size)
        have hs1 : ∀ g : Gr C6, Calls Try.prog 28 #[HistV f (.slice p5 B1.length q5), HistV f (.slice p1 B1.length q1)] g.world fun e w' => e = .returned (.bool true) ∧ Below g.world.heap.size g.world w' := fun g => ks _ _ _ (b5_6.at_ g.below) (b1_6.at_ g.below)
        have hs2 : ∀ g : Gr C6, Calls Try.prog 28 #[HistV f (.slice p6 B1.length q6), HistV f (.slice p1 B1.length q1)] g.world fun e w' => e = .returned (.bool true) ∧ Below g.world.heap.size g.world w' := fun g => ks _ _ _ (b6_6.at_ g.below) (b1_6.at_ g.below)
        have hs3 : ∀ g : Gr C6, Calls Try.prog 28 #[HistV f (.slice p4 B1.length q4), HistV f (.slice p1 B1.length q1)] g.world fun e w' => e = .returned (.bool true) ∧ Below g.world.heap.size g.world w' := fun g => ks _ _ _ (b4_6.at_ g.below) (b1_6.at_ g.below)
        have hr : ∀ g : Gr C6, Calls Try.prog 19 #[HistV f (.slice p1 B1.length q1)] g.world fun e w' => e = .returned (.bool true) ∧ Below g.world.heap.size g.world w' := fun g => kr _ _ (b1_6.at_ g.below)
        have hs1' := ks _ _ _ b5_6 b1_6
        with_reducible refine Calls.mono (Calls.gr0 (hs1')) ?_
        rintro e w' ⟨rfl, g, rfl⟩
        have hgl := g.le
        try simp only [World.size_alloc] at hgl
        try simp only [World.size_setCell] at hgl
        go_wp2_with fail
        with_reducible refine Calls.mono (Calls.gr (hs2 g)) ?_
        rintro e w' ⟨rfl, g, rfl⟩
        have hgl := g.le
        try simp only [World.size_alloc] at hgl
        try simp only [World.size_setCell] at hgl
        go_wp2_with fail
        with_reducible refine Calls.mono (Calls.gr (hs3 g)) ?_
        rintro e w' ⟨rfl, g, rfl⟩
        have hgl := g.le
        try simp only [World.size_alloc] at hgl
        try simp only [World.size_setCell] at hgl
        go_wp2_with fail
        with_reducible refine Calls.mono (Calls.gr (hr g)) ?_
        rintro e w' ⟨rfl, g, rfl⟩
        have hgl := g.le
        try simp only [World.size_alloc] at hgl
        try simp only [World.size_setCell] at hgl
        go_wp2_with fail
        go_ret
        exact ⟨by first | rfl | (simp; done) | (simp; omega), hB6.trans (g.below.mono hB6.size)⟩
      · have hvB := (hJ.drop2 hcA hAl)
        go_wp2_with fail
        have hB0 := hbw
        have hBT : Below wr.heap.size wr wr := Below.refl _ _
        refine Calls.mono (k1 _ hB0) ?_
        rintro e D1 ⟨v1, rfl, hv1, hd1⟩
        obtain ⟨p1, q1, he1, -⟩ := hv1.form
        subst he1
        have hE1 : Below w.heap.size w D1 := hB0.trans (hd1.mono hB0.size)
        have hF1 : Below wr.heap.size wr D1 := hBT.trans (hd1.mono hBT.size)
        have hEs1 := hE1.size
        go_wp2_with fail
        refine Calls.named (fun C1 hC1 => ?_)
        have hBC1 : Below D1.heap.size D1 C1 := by rw [hC1]; exact (by repeat (first | exact Below.refl _ _ | assumption | (refine Below.setCell ?_ (by (first | omega | (simp; done) | (simp; omega) | (simp at *; omega))) _) | (refine Below.alloc ?_ (by (first | omega | (simp; done) | (simp; omega) | (simp at *; omega))) _) | (refine Below.drew ?_) | (refine Gr.into _ ?_ (by (first | omega | (simp; done) | (simp; omega) | (simp at *; omega))))))
        have x1_1 : RowAt C1 (D1.heap.size) 25 [.int .i64 f, .slice p1 B1.length q1] := by rw [hC1]; exact (by repeat (first | assumption | exact RowAt.new_at _ _ _ _ (by (first | omega | (simp; done) | (simp; omega) | (simp at *; omega))) | (refine RowAt.alloc ?_ _) | (refine RowAt.gr ?_ _) | (refine RowAt.setOther ?_ _ _ (by (first | omega | (simp; done) | (simp; omega) | (simp at *; omega)))) | (refine RowAt.drew ?_)))
        clear hC1
        obtain ⟨x1_1c0, x1_1c1, x1_1f0, x1_1f1, x1_1l⟩ := x1_1.two
        have b1_1 := hv1.at_ hBC1
        have hB1 : Below w.heap.size w C1 := hE1.trans (hBC1.mono hE1.size)
        have hG1 : Below wr.heap.size wr C1 := hF1.trans (hBC1.mono hF1.size)
        refine Calls.mono (kA _ hB1) ?_
        rintro e D2 ⟨v2, rfl, hv2, hd2⟩
        obtain ⟨p2, q2, he2, -⟩ := hv2.form
        subst he2
        have y1_2 := x1_1.below hd2 x1_1l
        obtain ⟨y1_2c0, y1_2c1, y1_2f0, y1_2f1, y1_2l⟩ := y1_2.two
        have c1_2 := b1_1.at_ hd2
        have hE2 : Below w.heap.size w D2 := hB1.trans (hd2.mono hB1.size)
        have hF2 : Below wr.heap.size wr D2 := hG1.trans (hd2.mono hG1.size)
        have hEs2 := hE2.size
        go_wp2_with fail
        refine Calls.named (fun C2 hC2 => ?_)
        have hBC2 : Below D2.heap.size D2 C2 := by rw [hC2]; exact (by repeat (first | exact Below.refl _ _ | assumption | (refine Below.setCell ?_ (by (first | omega | (simp; done) | (simp; omega) | (simp at *; omega))) _) | (refine Below.alloc ?_ (by (first | omega | (simp; done) | (simp; omega) | (simp at *; omega))) _) | (refine Below.drew ?_) | (refine Gr.into _ ?_ (by (first | omega | (simp; done) | (simp; omega) | (simp at *; omega))))))
        have x1_2 : RowAt C2 (D1.heap.size) 25 [.int .i64 f, .slice p1 B1.length q1] := by rw [hC2]; exact (by repeat (first | assumption | exact RowAt.new_at _ _ _ _ (by (first | omega | (simp; done) | (simp; omega) | (simp at *; omega))) | (refine RowAt.alloc ?_ _) | (refine RowAt.gr ?_ _) | (refine RowAt.setOther ?_ _ _ (by (first | omega | (simp; done) | (simp; omega) | (simp at *; omega)))) | (refine RowAt.drew ?_)))
        have x2_2 : RowAt C2 (D2.heap.size) 25 [.int .i64 f, .slice p2 B2.length q2] := by rw [hC2]; exact (by repeat (first | assumption | exact RowAt.new_at _ _ _ _ (by (first | omega | (simp; done) | (simp; omega) | (simp at *; omega))) | (refine RowAt.alloc ?_ _) | (refine RowAt.gr ?_ _) | (refine RowAt.setOther ?_ _ _ (by (first | omega | (simp; done) | (simp; omega) | (simp at *; omega)))) | (refine RowAt.drew ?_)))
        clear hC2
        obtain ⟨x1_2c0, x1_2c1, x1_2f0, x1_2f1, x1_2l⟩ := x1_2.two
        obtain ⟨x2_2c0, x2_2c1, x2_2f0, x2_2f1, x2_2l⟩ := x2_2.two
        have b1_2 := c1_2.at_ hBC2
        have b2_2 := hv2.at_ hBC2
        have hB2 : Below w.heap.size w C2 := hE2.trans (hBC2.mono hE2.size)
        have hG2 : Below wr.heap.size wr C2 := hF2.trans (hBC2.mono hF2.size)
        refine Calls.mono (kB _ _ hvB hB2) ?_
        rintro e D3 ⟨v3, rfl, hv3, hd3⟩
        obtain ⟨p3, q3, he3, -⟩ := hv3.form
        subst he3
        have y1_3 := x1_2.below hd3 x1_2l
        obtain ⟨y1_3c0, y1_3c1, y1_3f0, y1_3f1, y1_3l⟩ := y1_3.two
        have y2_3 := x2_2.below hd3 x2_2l
        obtain ⟨y2_3c0, y2_3c1, y2_3f0, y2_3f1, y2_3l⟩ := y2_3.two
        have c1_3 := b1_2.at_ hd3
        have c2_3 := b2_2.at_ hd3
        have hE3 : Below w.heap.size w D3 := hB2.trans (hd3.mono hB2.size)
        have hF3 : Below wr.heap.size wr D3 := hG2.trans (hd3.mono hG2.size)
        have hEs3 := hE3.size
        go_wp2_with fail
        refine Calls.named (fun C3 hC3 => ?_)
        have hBC3 : Below D3.heap.size D3 C3 := by rw [hC3]; exact (by repeat (first | exact Below.refl _ _ | assumption | (refine Below.setCell ?_ (by (first | omega | (simp; done) | (simp; omega) | (simp at *; omega))) _) | (refine Below.alloc ?_ (by (first | omega | (simp; done) | (simp; omega) | (simp at *; omega))) _) | (refine Below.drew ?_) | (refine Gr.into _ ?_ (by (first | omega | (simp; done) | (simp; omega) | (simp at *; omega))))))
        have x1_3 : RowAt C3 (D1.heap.size) 25 [.int .i64 f, .slice p1 B1.length q1] := by rw [hC3]; exact (by repeat (first | assumption | exact RowAt.new_at _ _ _ _ (by (first | omega | (simp; done) | (simp; omega) | (simp at *; omega))) | (refine RowAt.alloc ?_ _) | (refine RowAt.gr ?_ _) | (refine RowAt.setOther ?_ _ _ (by (first | omega | (simp; done) | (simp; omega) | (simp at *; omega)))) | (refine RowAt.drew ?_)))
        have x2_3 : RowAt C3 (D2.heap.size) 25 [.int .i64 f, .slice p2 B2.length q2] := by rw [hC3]; exact (by repeat (first | assumption | exact RowAt.new_at _ _ _ _ (by (first | omega | (simp; done) | (simp; omega) | (simp at *; omega))) | (refine RowAt.alloc ?_ _) | (refine RowAt.gr ?_ _) | (refine RowAt.setOther ?_ _ _ (by (first | omega | (simp; done) | (simp; omega) | (simp at *; omega)))) | (refine RowAt.drew ?_)))
        have x3_3 : RowAt C3 (D3.heap.size) 25 [.int .i64 f, .slice p3 B3.length q3] := by rw [hC3]; exact (by repeat (first | assumption | exact RowAt.new_at _ _ _ _ (by (first | omega | (simp; done) | (simp; omega) | (simp at *; omega))) | (refine RowAt.alloc ?_ _) | (refine RowAt.gr ?_ _) | (refine RowAt.setOther ?_ _ _ (by (first | omega | (simp; done) | (simp; omega) | (simp at *; omega)))) | (refine RowAt.drew ?_)))
        clear hC3
        obtain ⟨x1_3c0, x1_3c1, x1_3f0, x1_3f1, x1_3l⟩ := x1_3.two
        obtain ⟨x2_3c0, x2_3c1, x2_3f0, x2_3f1, x2_3l⟩ := x2_3.two
        obtain ⟨x3_3c0, x3_3c1, x3_3f0, x3_3f1, x3_3l⟩ := x3_3.two
        have b1_3 := c1_3.at_ hBC3
        have b2_3 := c2_3.at_ hBC3
        have b3_3 := hv3.at_ hBC3
        have hB3 : Below w.heap.size w C3 := hE3.trans (hBC3.mono hE3.size)
        have hG3 : Below wr.heap.size wr C3 := hF3.trans (hBC3.mono hF3.size)
        refine Calls.mono (kT _ (hT.at_ hG3)) ?_
        rintro e D4 ⟨v4, rfl, hv4, hd4⟩
        obtain ⟨p4, q4, he4, -⟩ := hv4.form
        subst he4
        have y1_4 := x1_3.below hd4 x1_3l
        obtain ⟨y1_4c0, y1_4c1, y1_4f0, y1_4f1, y1_4l⟩ := y1_4.two
        have y2_4 := x2_3.below hd4 x2_3l
        obtain ⟨y2_4c0, y2_4c1, y2_4f0, y2_4f1, y2_4l⟩ := y2_4.two
        have y3_4 := x3_3.below hd4 x3_3l
        obtain ⟨y3_4c0, y3_4c1, y3_4f0, y3_4f1, y3_4l⟩ := y3_4.two
        have c1_4 := b1_3.at_ hd4
        have c2_4 := b2_3.at_ hd4
        have c3_4 := b3_3.at_ hd4
        have hE4 : Below w.heap.size w D4 := hB3.trans (hd4.mono hB3.size)
        have hF4 : Below wr.heap.size wr D4 := hG3.trans (hd4.mono hG3.size)
        have hEs4 := hE4.size
        go_wp2_with fail
        refine Calls.named (fun C4 hC4 => ?_)
        have hBC4 : Below D4.heap.size D4 C4 := by rw [hC4]; exact (by repeat (first | exact Below.refl _ _ | assumption | (refine Below.setCell ?_ (by (first | omega | (simp; done) | (simp; omega) | (simp at *; omega))) _) | (refine Below.alloc ?_ (by (first | omega | (simp; done) | (simp; omega) | (simp at *; omega))) _) | (refine Below.drew ?_) | (refine Gr.into _ ?_ (by (first | omega | (simp; done) | (simp; omega) | (simp at *; omega))))))
        have x1_4 : RowAt C4 (D1.heap.size) 25 [.int .i64 f, .slice p1 B1.length q1] := by rw [hC4]; exact (by repeat (first | assumption | exact RowAt.new_at _ _ _ _ (by (first | omega | (simp; done) | (simp; omega) | (simp at *; omega))) | (refine RowAt.alloc ?_ _) | (refine RowAt.gr ?_ _) | (refine RowAt.setOther ?_ _ _ (by (first | omega | (simp; done) | (simp; omega) | (simp at *; omega)))) | (refine RowAt.drew ?_)))
        have x2_4 : RowAt C4 (D2.heap.size) 25 [.int .i64 f, .slice p2 B2.length q2] := by rw [hC4]; exact (by repeat (first | assumption | exact RowAt.new_at _ _ _ _ (by (first | omega | (simp; done) | (simp; omega) | (simp at *; omega))) | (refine RowAt.alloc ?_ _) | (refine RowAt.gr ?_ _) | (refine RowAt.setOther ?_ _ _ (by (first | omega | (simp; done) | (simp; omega) | (simp at *; omega)))) | (refine RowAt.drew ?_)))
        have x3_4 : RowAt C4 (D3.heap.size) 25 [.int .i64 f, .slice p3 B3.length q3] := by rw [hC4]; exact (by repeat (first | assumption | exact RowAt.new_at _ _ _ _ (by (first | omega | (simp; done) | (simp; omega) | (simp at *; omega))) | (refine RowAt.alloc ?_ _) | (refine RowAt.gr ?_ _) | (refine RowAt.setOther ?_ _ _ (by (first | omega | (simp; done) | (simp; omega) | (simp at *; omega)))) | (refine RowAt.drew ?_)))
        have x4_4 : RowAt C4 (D4.heap.size) 25 [.int .i64 f, .slice p4 B1.length q4] := by rw [hC4]; exact (by repeat (first | assumption | exact RowAt.new_at _ _ _ _ (by (first | omega | (simp; done) | (simp; omega) | (simp at *; omega))) | (refine RowAt.alloc ?_ _) | (refine RowAt.gr ?_ _) | (refine RowAt.setOther ?_ _ _ (by (first | omega | (simp; done) | (simp; omega) | (simp at *; omega)))) | (refine RowAt.drew ?_)))
        clear hC4
        obtain ⟨x1_4c0, x1_4c1, x1_4f0, x1_4f1, x1_4l⟩ := x1_4.two
        obtain ⟨x2_4c0, x2_4c1, x2_4f0, x2_4f1, x2_4l⟩ := x2_4.two
        obtain ⟨x3_4c0, x3_4c1, x3_4f0, x3_4f1, x3_4l⟩ := x3_4.two
        obtain ⟨x4_4c0, x4_4c1, x4_4f0, x4_4f1, x4_4l⟩ := x4_4.two
        have b1_4 := c1_4.at_ hBC4
        have b2_4 := c2_4.at_ hBC4
        have b3_4 := c3_4.at_ hBC4
        have b4_4 := hv4.at_ hBC4
        have hB4 : Below w.heap.size w C4 := hE4.trans (hBC4.mono hE4.size)
        have hG4 : Below wr.heap.size wr C4 := hF4.trans (hBC4.mono hF4.size)
        refine Calls.mono (km23 _ _ _ b2_4 b3_4) ?_
        rintro e D5 ⟨v5, rfl, hv5, hd5⟩
        obtain ⟨p5, q5, he5, -⟩ := hv5.form
        subst he5
        have y1_5 := x1_4.below hd5 x1_4l
        obtain ⟨y1_5c0, y1_5c1, y1_5f0, y1_5f1, y1_5l⟩ := y1_5.two
        have y2_5 := x2_4.below hd5 x2_4l
        obtain ⟨y2_5c0, y2_5c1, y2_5f0, y2_5f1, y2_5l⟩ := y2_5.two
        have y3_5 := x3_4.below hd5 x3_4l
        obtain ⟨y3_5c0, y3_5c1, y3_5f0, y3_5f1, y3_5l⟩ := y3_5.two
        have y4_5 := x4_4.below hd5 x4_4l
        obtain ⟨y4_5c0, y4_5c1, y4_5f0, y4_5f1, y4_5l⟩ := y4_5.two
        have c1_5 := b1_4.at_ hd5
        have c2_5 := b2_4.at_ hd5
        have c3_5 := b3_4.at_ hd5
        have c4_5 := b4_4.at_ hd5
        have hE5 : Below w.heap.size w D5 := hB4.trans (hd5.mono hB4.size)
        have hF5 : Below wr.heap.size wr D5 := hG4.trans (hd5.mono hG4.size)
        have hEs5 := hE5.size
        go_wp2_with fail
        refine Calls.named (fun C5 hC5 => ?_)
        have hBC5 : Below D5.heap.size D5 C5 := by rw [hC5]; exact (by repeat (first | exact Below.refl _ _ | assumption | (refine Below.setCell ?_ (by (first | omega | (simp; done) | (simp; omega) | (simp at *; omega))) _) | (refine Below.alloc ?_ (by (first | omega | (simp; done) | (simp; omega) | (simp at *; omega))) _) | (refine Below.drew ?_) | (refine Gr.into _ ?_ (by (first | omega | (simp; done) | (simp; omega) | (simp at *; omega))))))
        have x1_5 : RowAt C5 (D1.heap.size) 25 [.int .i64 f, .slice p1 B1.length q1] := by rw [hC5]; exact (by repeat (first | assumption | exact RowAt.new_at _ _ _ _ (by (first | omega | (simp; done) | (simp; omega) | (simp at *; omega))) | (refine RowAt.alloc ?_ _) | (refine RowAt.gr ?_ _) | (refine RowAt.setOther ?_ _ _ (by (first | omega | (simp; done) | (simp; omega) | (simp at *; omega)))) | (refine RowAt.drew ?_)))
        have x2_5 : RowAt C5 (D2.heap.size) 25 [.int .i64 f, .slice p2 B2.length q2] := by rw [hC5]; exact (by repeat (first | assumption | exact RowAt.new_at _ _ _ _ (by (first | omega | (simp; done) | (simp; omega) | (simp at *; omega))) | (refine RowAt.alloc ?_ _) | (refine RowAt.gr ?_ _) | (refine RowAt.setOther ?_ _ _ (by (first | omega | (simp; done) | (simp; omega) | (simp at *; omega)))) | (refine RowAt.drew ?_)))
        have x3_5 : RowAt C5 (D3.heap.size) 25 [.int .i64 f, .slice p3 B3.length q3] := by rw [hC5]; exact (by repeat (first | assumption | exact RowAt.new_at _ _ _ _ (by (first | omega | (simp; done) | (simp; omega) | (simp at *; omega))) | (refine RowAt.alloc ?_ _) | (refine RowAt.gr ?_ _) | (refine RowAt.setOther ?_ _ _ (by (first | omega | (simp; done) | (simp; omega) | (simp at *; omega)))) | (refine RowAt.drew ?_)))
        have x4_5 : RowAt C5 (D4.heap.size) 25 [.int .i64 f, .slice p4 B1.length q4] := by rw [hC5]; exact (by repeat (first | assumption | exact RowAt.new_at _ _ _ _ (by (first | omega | (simp; done) | (simp; omega) | (simp at *; omega))) | (refine RowAt.alloc ?_ _) | (refine RowAt.gr ?_ _) | (refine RowAt.setOther ?_ _ _ (by (first | omega | (simp; done) | (simp; omega) | (simp at *; omega)))) | (refine RowAt.drew ?_)))
        have x5_5 : RowAt C5 (D5.heap.size) 25 [.int .i64 f, .slice p5 B1.length q5] := by rw [hC5]; exact (by repeat (first | assumption | exact RowAt.new_at _ _ _ _ (by (first | omega | (simp; done) | (simp; omega) | (simp at *; omega))) | (refine RowAt.alloc ?_ _) | (refine RowAt.gr ?_ _) | (refine RowAt.setOther ?_ _ _ (by (first | omega | (simp; done) | (simp; omega) | (simp at *; omega)))) | (refine RowAt.drew ?_)))
        clear hC5
        obtain ⟨x1_5c0, x1_5c1, x1_5f0, x1_5f1, x1_5l⟩ := x1_5.two
        obtain ⟨x2_5c0, x2_5c1, x2_5f0, x2_5f1, x2_5l⟩ := x2_5.two
        obtain ⟨x3_5c0, x3_5c1, x3_5f0, x3_5f1, x3_5l⟩ := x3_5.two
        obtain ⟨x4_5c0, x4_5c1, x4_5f0, x4_5f1, x4_5l⟩ := x4_5.two
        obtain ⟨x5_5c0, x5_5c1, x5_5f0, x5_5f1, x5_5l⟩ := x5_5.two
        have b1_5 := c1_5.at_ hBC5
        have b2_5 := c2_5.at_ hBC5
        have b3_5 := c3_5.at_ hBC5
        have b4_5 := c4_5.at_ hBC5
        have b5_5 := hv5.at_ hBC5
        have hB5 : Below w.heap.size w C5 := hE5.trans (hBC5.mono hE5.size)
        have hG5 : Below wr.heap.size wr C5 := hF5.trans (hBC5.mono hF5.size)
        refine Calls.mono (km32 _ _ _ b3_5 b2_5) ?_
        rintro e D6 ⟨v6, rfl, hv6, hd6⟩
        obtain ⟨p6, q6, he6, -⟩ := hv6.form
        subst he6
        have y1_6 := x1_5.below hd6 x1_5l
        obtain ⟨y1_6c0, y1_6c1, y1_6f0, y1_6f1, y1_6l⟩ := y1_6.two
        have y2_6 := x2_5.below hd6 x2_5l
        obtain ⟨y2_6c0, y2_6c1, y2_6f0, y2_6f1, y2_6l⟩ := y2_6.two
        have y3_6 := x3_5.below hd6 x3_5l
        obtain ⟨y3_6c0, y3_6c1, y3_6f0, y3_6f1, y3_6l⟩ := y3_6.two
        have y4_6 := x4_5.below hd6 x4_5l
        obtain ⟨y4_6c0, y4_6c1, y4_6f0, y4_6f1, y4_6l⟩ := y4_6.two
        have y5_6 := x5_5.below hd6 x5_5l
        obtain ⟨y5_6c0, y5_6c1, y5_6f0, y5_6f1, y5_6l⟩ := y5_6.two
        have c1_6 := b1_5.at_ hd6
        have c2_6 := b2_5.at_ hd6
        have c3_6 := b3_5.at_ hd6
        have c4_6 := b4_5.at_ hd6
        have c5_6 := b5_5.at_ hd6
        have hE6 : Below w.heap.size w D6 := hB5.trans (hd6.mono hB5.size)
        have hF6 : Below wr.heap.size wr D6 := hG5.trans (hd6.mono hG5.size)
        have hEs6 := hE6.size
        go_wp2_with fail
        refine Calls.named (fun C6 hC6 => ?_)
        have hBC6 : Below D6.heap.size D6 C6 := by rw [hC6]; exact (by repeat (first | exact Below.refl _ _ | assumption | (refine Below.setCell ?_ (by (first | omega | (simp; done) | (simp; omega) | (simp at *; omega))) _) | (refine Below.alloc ?_ (by (first | omega | (simp; done) | (simp; omega) | (simp at *; omega))) _) | (refine Below.drew ?_) | (refine Gr.into _ ?_ (by (first | omega | (simp; done) | (simp; omega) | (simp at *; omega))))))
        have x1_6 : RowAt C6 (D1.heap.size) 25 [.int .i64 f, .slice p1 B1.length q1] := by rw [hC6]; exact (by repeat (first | assumption | exact RowAt.new_at _ _ _ _ (by (first | omega | (simp; done) | (simp; omega) | (simp at *; omega))) | (refine RowAt.alloc ?_ _) | (refine RowAt.gr ?_ _) | (refine RowAt.setOther ?_ _ _ (by (first | omega | (simp; done) | (simp; omega) | (simp at *; omega)))) | (refine RowAt.drew ?_)))
        have x2_6 : RowAt C6 (D2.heap.size) 25 [.int .i64 f, .slice p2 B2.length q2] := by rw [hC6]; exact (by repeat (first | assumption | exact RowAt.new_at _ _ _ _ (by (first | omega | (simp; done) | (simp; omega) | (simp at *; omega))) | (refine RowAt.alloc ?_ _) | (refine RowAt.gr ?_ _) | (refine RowAt.setOther ?_ _ _ (by (first | omega | (simp; done) | (simp; omega) | (simp at *; omega)))) | (refine RowAt.drew ?_)))
        have x3_6 : RowAt C6 (D3.heap.size) 25 [.int .i64 f, .slice p3 B3.length q3] := by rw [hC6]; exact (by repeat (first | assumption | exact RowAt.new_at _ _ _ _ (by (first | omega | (simp; done) | (simp; omega) | (simp at *; omega))) | (refine RowAt.alloc ?_ _) | (refine RowAt.gr ?_ _) | (refine RowAt.setOther ?_ _ _ (by (first | omega | (simp; done) | (simp; omega) | (simp at *; omega)))) | (refine RowAt.drew ?_)))
        have x4_6 : RowAt C6 (D4.heap.size) 25 [.int .i64 f, .slice p4 B1.length q4] := by rw [hC6]; exact (by repeat (first | assumption | exact RowAt.new_at _ _ _ _ (by (first | omega | (simp; done) | (simp; omega) | (simp at *; omega))) | (refine RowAt.alloc ?_ _) | (refine RowAt.gr ?_ _) | (refine RowAt.setOther ?_ _ _ (by (first | omega | (simp; done) | (simp; omega) | (simp at *; omega)))) | (refine RowAt.drew ?_)))
        have x5_6 : RowAt C6 (D5.heap.size) 25 [.int .i64 f, .slice p5 B1.length q5] := by rw [hC6]; exact (by repeat (first | assumption | exact RowAt.new_at _ _ _ _ (by (first | omega | (simp; done) | (simp; omega) | (simp at *; omega))) | (refine RowAt.alloc ?_ _) | (refine RowAt.gr ?_ _) | (refine RowAt.setOther ?_ _ _ (by (first | omega | (simp; done) | (simp; omega) | (simp at *; omega)))) | (refine RowAt.drew ?_)))
        have x6_6 : RowAt C6 (D6.heap.size) 25 [.int .i64 f, .slice p6 B1.length q6] := by rw [hC6]; exact (by repeat (first | assumption | exact RowAt.new_at _ _ _ _ (by (first | omega | (simp; done) | (simp; omega) | (simp at *; omega))) | (refine RowAt.alloc ?_ _) | (refine RowAt.gr ?_ _) | (refine RowAt.setOther ?_ _ _ (by (first | omega | (simp; done) | (simp; omega) | (simp at *; omega)))) | (refine RowAt.drew ?_)))
        clear hC6
        obtain ⟨x1_6c0, x1_6c1, x1_6f0, x1_6f1, x1_6l⟩ := x1_6.two
        obtain ⟨x2_6c0, x2_6c1, x2_6f0, x2_6f1, x2_6l⟩ := x2_6.two
        obtain ⟨x3_6c0, x3_6c1, x3_6f0, x3_6f1, x3_6l⟩ := x3_6.two
        obtain ⟨x4_6c0, x4_6c1, x4_6f0, x4_6f1, x4_6l⟩ := x4_6.two
        obtain ⟨x5_6c0, x5_6c1, x5_6f0, x5_6f1, x5_6l⟩ := x5_6.two
        obtain ⟨x6_6c0, x6_6c1, x6_6f0, x6_6f1, x6_6l⟩ := x6_6.two
        have b1_6 := c1_6.at_ hBC6
        have b2_6 := c2_6.at_ hBC6
        have b3_6 := c3_6.at_ hBC6
        have b4_6 := c4_6.at_ hBC6
        have b5_6 := c5_6.at_ hBC6
        have b6_6 := hv6.at_ hBC6
        have hB6 : Below w.heap.size w C6 := hE6.trans (hBC6.mono hE6.size)
        have hG6 : Below wr.heap.size wr C6 := hF6.trans (hBC6.mono hF6.size)
        have hs1 : ∀ g : Gr C6, Calls Try.prog 28 #[HistV f (.slice p5 B1.length q5), HistV f (.slice p1 B1.length q1)] g.world fun e w' => e = .returned (.bool true) ∧ Below g.world.heap.size g.world w' := fun g => ks _ _ _ (b5_6.at_ g.below) (b1_6.at_ g.below)
        have hs2 : ∀ g : Gr C6, Calls Try.prog 28 #[HistV f (.slice p6 B1.length q6), HistV f (.slice p1 B1.length q1)] g.world fun e w' => e = .returned (.bool true) ∧ Below g.world.heap.size g.world w' := fun g => ks _ _ _ (b6_6.at_ g.below) (b1_6.at_ g.below)
        have hs3 : ∀ g : Gr C6, Calls Try.prog 28 #[HistV f (.slice p4 B1.length q4), HistV f (.slice p1 B1.length q1)] g.world fun e w' => e = .returned (.bool true) ∧ Below g.world.heap.size g.world w' := fun g => ks _ _ _ (b4_6.at_ g.below) (b1_6.at_ g.below)
        have hr : ∀ g : Gr C6, Calls Try.prog 19 #[HistV f (.slice p1 B1.length q1)] g.world fun e w' => e = .returned (.bool true) ∧ Below g.world.heap.size g.world w' := fun g => kr _ _ (b1_6.at_ g.below)
        have hs1' := ks _ _ _ b5_6 b1_6
        with_reducible refine Calls.mono (Calls.gr0 (hs1')) ?_
        rintro e w' ⟨rfl, g, rfl⟩
        have hgl := g.le
        try simp only [World.size_alloc] at hgl
        try simp only [World.size_setCell] at hgl
        go_wp2_with fail
        with_reducible refine Calls.mono (Calls.gr (hs2 g)) ?_
        rintro e w' ⟨rfl, g, rfl⟩
        have hgl := g.le
        try simp only [World.size_alloc] at hgl
        try simp only [World.size_setCell] at hgl
        go_wp2_with fail
        with_reducible refine Calls.mono (Calls.gr (hs3 g)) ?_
        rintro e w' ⟨rfl, g, rfl⟩
        have hgl := g.le
        try simp only [World.size_alloc] at hgl
        try simp only [World.size_setCell] at hgl
        go_wp2_with fail
        with_reducible refine Calls.mono (Calls.gr (hr g)) ?_
        rintro e w' ⟨rfl, g, rfl⟩
        have hgl := g.le
        try simp only [World.size_alloc] at hgl
        try simp only [World.size_setCell] at hgl
        go_wp2_with fail
        go_ret
        exact ⟨by first | rfl | (simp; done) | (simp; omega), hB6.trans (g.below.mono hB6.size)⟩
theorem parts_law (f at_ : Int) (p : Option Addr) (n cap : Nat) (J : List (Nat × Nat)) (w : World) (hc : n ≤ cap) (hn : J.length = min n 100) (hJ : ItemsAt w.heap.size w (.slice p J.length cap) J) :
    Calls Try.prog 8 #[.int .i64 f, .slice p n cap, .int .i64 at_] w fun e w' => e = .returned (.bool true) ∧ Below w.heap.size w w' := by
  cases h : fineB f
  · exact parts_law_no f at_ _ w h
  · obtain ⟨h1, h2⟩ := fine_bd h
    obtain ⟨n0, rfl⟩ := Int.eq_ofNat_of_zero_le (a := f) h1
    obtain ⟨A, hA⟩ := Int.eq_ofNat_of_zero_le (a := max 0 (min at_ (J.length : Nat))) (by omega)
    exact parts_law_yes n0 A at_ p n cap J w (by omega) (by omega) hA hJ (by omega) (by omega)
end Go.Proofs.Ytnoemopaplopdaa
