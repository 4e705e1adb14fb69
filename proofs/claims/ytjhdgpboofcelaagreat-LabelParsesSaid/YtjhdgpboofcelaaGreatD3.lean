/- Package label: joined. -/
import Derived.Test.YtjhdgpboofcelaaGreatD2
import Derived.Test.YtjhdgpboofcelaaGreatFreeS
namespace Go.Proofs.YtjhdgpboofcelaaGreat
open Go.RowKit

/-- A label's text. -/
def labT (x : BLab) : ByteArray := x.1 ++ ⟨#[61]⟩ ++ ⟨(esc x.2.data.toList).toArray⟩
def textA (L : List BLab) : List UInt8 := Lib.join (L.map fun x => (labT x).data.toList) [44]
theorem flat_len (B : Nat) : ∀ r : List (List UInt8), (∀ x ∈ r, x.length ≤ B) → ((r.map (([44] : List UInt8) ++ ·)).flatten).length ≤ r.length * (B + 1)
  | [], _ => by simp
  | x :: r, h => by
    have ih := flat_len B r (fun y hy => h y (by simp [hy]))
    have hx := h x (by simp)
    have e : (x :: r).length * (B + 1) = r.length * (B + 1) + (B + 1) := by rw [List.length_cons, Nat.succ_mul]
    rw [List.map_cons, List.flatten_cons, List.length_append, List.length_append, e]
    simp only [List.length_cons, List.length_nil]
    omega
theorem join_len (B : Nat) : ∀ xs : List (List UInt8), (∀ x ∈ xs, x.length ≤ B) → (Lib.join xs [44]).length ≤ xs.length * (B + 1)
  | [], _ => by simp [Lib.join_nil]
  | x :: r, h => by
    have hf := flat_len B r (fun y hy => h y (by simp [hy]))
    have hx := h x (by simp)
    rw [Lib.join_cons, Lib.joinTail, List.length_append, List.length_cons, Nat.succ_mul]
    omega
theorem labT_len (x : BLab) (h : x.1.size ≤ 1000000 ∧ x.2.size ≤ 1000000) : (labT x).data.toList.length ≤ 3000001 := by
  have h1 := esc_le x.2.data.toList
  rw [data_length] at h1
  have e : (labT x).data.toList = x.1.data.toList ++ [61] ++ esc x.2.data.toList := by simp [labT, ByteArray.data_append]
  rw [e, List.length_append, List.length_append, data_length]
  simp only [List.length_cons, List.length_nil]
  omega
theorem ownsRow_same {w W : World} {base : Nat} {e : TypeId} {size n : Nat} {v : Value} {xs : List Value} (h : w.ownsRow base e size v n xs) (hb : ∀ k, base ≤ k → k < w.heap.size → W.heap[k]? = w.heap[k]?) : W.ownsRow base e size v n xs := by
  obtain ⟨h1, h2 | ⟨g, cap, cur, rfl, h3, h4, h5, h6, h7, h8⟩⟩ := h
  · exact ⟨h1, .inl h2⟩
  · exact ⟨h1, .inr ⟨g, cap, cur, rfl, h3, (hb g h3 (Array.getElem?_eq_some_iff.1 h4).1).trans h4, h5, h6, h7, h8⟩⟩
theorem ownsRow_below {w W : World} {base : Nat} {e : TypeId} {size n : Nat} {v : Value} {xs : List Value} (h : w.ownsRow base e size v n xs) (hb : Below w.heap.size w W) : W.ownsRow base e size v n xs := ownsRow_same h fun k _ hk => hb.block k hk
/-- Where joined stands: the replacer, what is put down. -/
def JoinAt (r : Nat) (v : Value) (k : Nat) (xs : List Value) (W : World) : Prop :=
  (RepF W r ∧ k = 0 ∧ v = .slice none 0 0 ∧ xs = []) ∨ (∃ M, RepD M W r ∧ W.ownsRow M 9 1 v k xs ∧ M ≤ W.heap.size)
theorem JoinAt.into {r : Nat} {v : Value} {k : Nat} {xs : List Value} {W W' : World} (h : JoinAt r v k xs W) (hb : Below W.heap.size W W') : JoinAt r v k xs W' := by
  rcases h with ⟨h, h2⟩ | ⟨M, h, h2, h3⟩
  · exact .inl ⟨h.into hb, h2⟩
  · exact .inr ⟨M, h.into hb, ownsRow_below h2 hb, Nat.le_trans h3 hb.size⟩
theorem JoinAt.lt {r : Nat} {v : Value} {k : Nat} {xs : List Value} {W : World} (h : JoinAt r v k xs W) : r < W.heap.size := by
  rcases h with ⟨h, h2⟩ | ⟨M, h, h2, h3⟩
  · exact h.lt
  · exact h.lt
theorem join_replace {B r : Nat} {v : Value} {k : Nat} {xs : List Value} {W : World} (h : JoinAt r v k xs W) (s : ByteArray) (hs : s.size ≤ 1000000) (hB : B ≤ r) :
    Calls Tryz.prog 56 #[.pointer (some ⟨r, 0, none⟩), .string s] W fun e w' => e = .returned (.string ⟨(esc s.data.toList).toArray⟩) ∧ (∃ M, RepD M w' r ∧ w'.ownsRow M 9 1 v k xs ∧ M ≤ w'.heap.size) ∧ But B r W w' := by
  rcases h with ⟨h, rfl, rfl, rfl⟩ | ⟨M, h, h2, h3⟩
  · refine (replace_first B r s W h hs hB).mono ?_
    rintro e w' ⟨h1, h2, h3⟩
    exact ⟨h1, ⟨_, h2, World.ownsRow_nil _ _ _ _, Nat.le_refl _⟩, h3⟩
  · refine (replace_again M r s W h hs).mono ?_
    rintro e w' ⟨h1, hb⟩
    exact ⟨h1, ⟨M, h.into hb, ownsRow_below h2 hb, Nat.le_trans h3 hb.size⟩, But.of_below hb (by have := h.lt; omega)⟩
set_option maxRecDepth 100000 in
set_option maxHeartbeats 2000000 in
theorem joined_in (a off cap : Nat) (L : List BLab) (w : World) (hs : ∀ x ∈ L, x.1.size ≤ 1000000 ∧ x.2.size ≤ 1000000) (hlen : L.length ≤ 1000) (hcap : L.length ≤ cap) (ha : a < w.heap.size)
    (hc : ∀ i (h : i < L.length), w.cell? ⟨a, off + i * 2, none⟩ = some (.string L[i].1) ∧ w.cell? ⟨a, off + i * 2 + 1, none⟩ = some (.string L[i].2)) :
    Calls Tryz.prog 35 #[.slice (some ⟨a, off, none⟩) L.length cap] w fun e w' => e = .returned (.string ⟨(textA L).toArray⟩) ∧ Below w.heap.size w w' := by
  have ho : RowAt (w.alloc (.cells #[.string sC, .string sEC, .string sE, .string sEE] 9)) w.heap.size 9 [.string sC, .string sEC, .string sE, .string sEE] := RowAt.of_new _ _ _
  go_enter Tryz.func35, Tryz.ntmps35
  go_wp2_with (go_at_call 55; refine (newRep_any w.heap.size _ ho).mono ?_; rintro e w1 ⟨r, rfl, hr1, hr2, hb1⟩)
  rw [World.size_alloc] at hr1 hb1
  have hB1 : Below w.heap.size w w1 := ((Below.refl _ w).alloc (Nat.le_refl _) _).trans (hb1.mono (by omega))
  have hwr : w.heap.size ≤ r := by omega
  clear hb1 ho hr1
  go_loopw [4, 11] (fun v i wr => ∃ k : Nat, k ≤ L.length ∧ i = .int .i64 k ∧ JoinAt r v k ((L.take k).map fun x => .string (labT x)) wr ∧ Below w.heap.size w wr)
    (fun _ i _ => L.length - (intOf i).toNat)
  case atStart => exact ⟨0, by omega, rfl, .inl ⟨hr2, rfl, rfl, rfl⟩, hB1⟩
  case round =>
    obtain ⟨k, hk, rfl, hJ, hB⟩ := hrel
    by_cases hlk : k < L.length
    · obtain ⟨hc0, hc1⟩ := hc k hlk
      rw [← hB.cell (p := ⟨a, off + k * 2, none⟩) ha] at hc0
      rw [← hB.cell (p := ⟨a, off + k * 2 + 1, none⟩) ha] at hc1
      have hin := hs _ (List.getElem_mem hlk)
      have hal : a < wr.heap.size := Nat.lt_of_lt_of_le ha hB.size
      have hstep : (L.take (k + 1)).map (fun x => Value.string (labT x)) = (L.take k).map (fun x => Value.string (labT x)) ++ [.string (labT L[k])] := by
        rw [List.take_succ_eq_append_getElem hlk, List.map_append]; rfl
      rcases hL : L[k] with ⟨nm, vl⟩
      rw [hL] at hin hc0 hc1 hstep
      have HS := Lib.hid hstep
      clear hstep hc hL
      generalize (L.take k).map (fun x => Value.string (labT x)) = xs at *
      have hrl := hJ.lt
      go_wp2
      refine wp_named (fun W hW => ?_)
      have hBW : Below wr.heap.size wr W := by rw [hW]; exact (by repeat (first | exact Below.refl _ _ | assumption | (refine Below.setCell ?_ (by (first | omega | (simp; done) | (simp; omega) | (simp at *; omega))) _) | (refine Below.alloc ?_ (by (first | omega | (simp; done) | (simp; omega) | (simp at *; omega))) _) | (refine Below.drew ?_) | (refine Gr.into _ ?_ (by (first | omega | (simp; done) | (simp; omega) | (simp at *; omega))))))
      have hx : RowAt W wr.heap.size 41 [.string nm, .string vl] := by rw [hW]; exact RowAt.new_at _ _ _ _ (by simp)
      clear hW
      obtain ⟨xc0, xc1, xf0, xf1, xl⟩ := hx.two
      have hJW := hJ.into hBW
      have hrx : ¬ wr.heap.size = r := by omega
      have hes := esc_le vl.data.toList
      rw [data_length] at hes
      have hez : (⟨(esc vl.data.toList).toArray⟩ : ByteArray).size ≤ 2000000 := by show (esc vl.data.toList).toArray.size ≤ _; simp; omega
      haveI hnon : Nonempty (GrB w.heap.size r W (JoinAt r u4 k xs)) := ⟨⟨W, But.refl _ _ _, hJW⟩⟩
      refine wp_region_but_free w.heap.size r (JoinAt r u4 k xs) 7 5 [10, 11] (by kernel_rfl) (hJW.into ((Below.refl _ _).drew)) (by kernel_rfl) ?_
      simp only [List.take_succ_cons, List.take_zero]
      repeat (go_big_quiet_step (first | fail))
      refine wpQuiet_nil ?_
      intro g
      refine wpAnyC_one 7 rfl rfl (by kernel_rfl) (fun K hK => ?_)
      go_wp2_with (go_at_call 56; refine (join_replace g.ok vl hin.2 hwr).mono ?_; rintro e w2 ⟨rfl, ⟨M, hD, hown, hM⟩, hb2⟩)
      have hbW := g.but.trans hb2
      refine hK _ _ (.inr ⟨⟨w2, hbW, .inr ⟨M, hD, hown, hM⟩⟩, rfl⟩) ?_
      refine wpAnyC_pureL 8 (by kernel_rfl) ?_
      simp only [List.drop_succ_cons, List.drop_zero, List.take_succ_cons, List.take_zero]
      go_big_quiet_step (first | fail)
      refine wpQuiet_nil ?_
      refine wpAnyC_one 9 rfl rfl (by kernel_rfl) (fun K hK => ?_)
      go_wp2
      have hbW2 : But w.heap.size r W (w2.alloc (.cells #[.string (labT (nm, vl))] 9)) := hbW.alloc (by have := hbW.1.size; omega) _
      refine hK _ _ (.inr ⟨⟨_, hbW2, .inr ⟨M, hD.into ((Below.refl _ _).alloc (Nat.le_refl _) _), World.ownsRow.alloc hown _, by rw [World.size_alloc]; omega⟩⟩, rfl⟩) ?_
      refine wpAnyC_one 10 rfl rfl (by kernel_rfl) (fun K hK => ?_)
      have hrow : RowAt (w2.alloc (.cells #[.string (labT (nm, vl))] 9)) w2.heap.size 9 [.string (labT (nm, vl))] := RowAt.of_new _ _ _
      obtain ⟨i0, hi, hz0, hz1, hz2⟩ := info_parts (show (Tryz.prog.info? 9).map (fun i => (i.zero, i.size, i.bytes)) = some (some (.string ⟨#[]⟩), 1, 16) by kernel_rfl)
      have hw2s := hbW.1.size
      have hWs := hBW.size
      have hBs := hB.size
      refine wp_append_own _ (.tmp 15) (.tmp 24) 57 rfl M 9 i0 (.string ⟨#[]⟩) 1 16 Tryz.underlying57 hi hz0 hz1 hz2 rfl (by omega) u4 k xs rfl (World.ownsRow.alloc hown _) ⟨w2.heap.size, 0, none⟩ 1 1 [.string (labT (nm, vl))] rfl rfl
        (fun j u hj => by
          obtain ⟨hlt, rfl⟩ := List.getElem?_eq_some_iff.1 hj
          have e : (⟨w2.heap.size, 0, none⟩ : Addr).add j = ⟨w2.heap.size, j, none⟩ := by by_cases h0 : j = 0 <;> simp [Addr.add, h0]
          rw [e]; exact hrow.cell j hlt)
        (fun u hu => by simp at hu; subst hu; rfl) (by unfold maxLen; omega) (by omega) (by simp; omega) ?_
      intro v' Y hownY hgY _
      have hnb : ∀ g, u4.ownBlock = some g → M ≤ g := by
        intro g hg
        obtain ⟨-, ⟨rfl, -⟩ | ⟨g', cap', cur, rfl, h3, -⟩⟩ := hown
        · cases hg
        · cases hg; exact h3
      have hDY : RepD M Y r := (hD.into ((Below.refl _ _).alloc (Nat.le_refl _) _)).same fun j hj hl => hgY.block j hl (fun e => by have := hnb j e.symm; omega)
      have hBw2 : Below w.heap.size w (w2.alloc (.cells #[.string (labT (nm, vl))] 9)) := (hB.trans (hBW.mono hBs)).trans hbW2.1
      have hrM := hD.1
      have hBY : Below w.heap.size w Y := hBw2.grown hgY hBw2.size (fun j e => by have := hnb j e; omega)
      have hYs := hgY.size
      clear hnb hgY hBw2 hbW2 hrow hD hown hb2 hbW hJW hnon
      refine hK _ _ (.inl rfl) ?_
      refine wpAnyC_one 11 rfl rfl (by kernel_rfl) (fun K hK => ?_)
      go_wp2
      refine hK _ _ (.inl rfl) ?_
      refine wpAnyC_end (by kernel_rfl) ?_
      go_wp2
      go_roundw
      case rel => exact ⟨k + 1, by omega, by go_num, .inr ⟨M, hDY, by rw [HS.out]; exact hownY, by simp at hYs; omega⟩, hBY⟩
      case measure => simp [intOf]; omega
    · obtain rfl : k = L.length := by omega
      rw [List.take_length] at hJ
      have hlk' : ¬ ((L.length : Nat) : Int) < (L.length : Int) := by omega
      have hBs := hB.size
      rcases hJ with ⟨-, h0, rfl, -⟩ | ⟨M, -, hown, hM⟩
      · have hL : L = [] := List.eq_nil_of_length_eq_zero h0
        have hj := Tryz.strings_Join_none none 0 ⟨#[44]⟩ wr
        have ht : textA L = [] := by rw [hL]; rfl
        have HT := Lib.hid ht
        clear ht h0 hs hc
        go_wp2_with (go_at_call 57; refine hj.mono ?_; rintro e w2 ⟨rfl, rfl⟩)
        go_ret
        exact ⟨by rw [HT.out]; rfl, hB⟩
      · obtain ⟨hl1, ⟨rfl, h0⟩ | ⟨g, cap', cur, rfl, h3, h4, h5, h6, h7, h8⟩⟩ := hown
        · have hL : L = [] := List.eq_nil_of_length_eq_zero h0
          have hj := Tryz.strings_Join_none none 0 ⟨#[44]⟩ wr
          have ht : textA L = [] := by rw [hL]; rfl
          have HT := Lib.hid ht
          clear ht h0 hs hc hl1
          go_wp2_with (go_at_call 57; refine hj.mono ?_; rintro e w2 ⟨rfl, rfl⟩)
          go_ret
          exact ⟨by rw [HT.out]; rfl, hB⟩
        · have hj := Tryz.strings_Join g 0 cap' (L.map labT) ⟨#[44]⟩ wr (fun j x hx => by
              have r1 : RowAt wr g 9 (L.map fun x => Value.string (labT x)) := ⟨cur, 0, 0, h4, .inl rfl, by rw [hl1]; exact h8⟩
              obtain ⟨hlt, rfl⟩ := List.getElem?_eq_some_iff.1 hx
              have hlt' : j < (L.map fun x => Value.string (labT x)).length := by simpa using hlt
              have := r1.cell j hlt'
              rw [Nat.zero_add, this]
              simp) (Array.getElem?_eq_some_iff.1 h4).1 (by simp; omega) (by simpa using h5) (by
              have h9 := join_len 3000001 ((L.map labT).map (·.data.toList)) (fun x hx => by
                simp only [List.mem_map] at hx
                obtain ⟨y, ⟨z, hz, rfl⟩, rfl⟩ := hx
                exact labT_len z (hs z hz))
              simp only [List.length_map] at h9
              have e : ((⟨#[44]⟩ : ByteArray).data.toList) = [44] := rfl
              rw [e]
              omega)
          have e : ((⟨#[44]⟩ : ByteArray).data.toList) = [44] := rfl
          have e2 : Lib.join ((L.map labT).map (·.data.toList)) [44] = textA L := by unfold textA; rw [List.map_map]; rfl
          rw [e, e2, List.length_map] at hj
          clear hs hc hl1 h8 e e2
          go_wp2_with (go_at_call 57; refine hj.mono ?_; rintro e w2 ⟨rfl, hb2⟩)
          go_ret
          exact ⟨rfl, hB.trans (hb2.mono (by omega))⟩

theorem joined_any (v : Value) (L : List BLab) (w : World) (hL : LabelsAt w.heap.size w v L) (hlen : L.length ≤ 1000) (hne : L ≠ []) :
    Calls Tryz.prog 35 #[v] w fun e w' => e = .returned (.string ⟨(textA L).toArray⟩) ∧ Below w.heap.size w w' := by
  obtain ⟨n1, n2, ⟨a, rfl, rfl⟩ | ⟨a, off, cap, rfl, n3, n4, n5⟩⟩ := hL
  · exact absurd rfl hne
  · exact joined_in a off cap L w n1 hlen n4 n3 n5

/-- A number that is told. -/
abbrev errV (n : Int) : Value := .int .i64 n
theorem text_any (v : Value) (L : List BLab) (w : World) (hL : LabelsAt w.heap.size w v L) :
    Calls Tryz.prog 18 #[v] w fun e w' => e = .returned (.tuple #[.string (if rightA L then ⟨(textA L).toArray⟩ else ⟨#[]⟩), .int .i64 (if rightA L then 0 else 40)]) ∧ Below w.heap.size w w' := by
  have hR : ∀ W, Below w.heap.size w W → Calls Tryz.prog 19 #[v] W fun e w' => e = .returned (.bool (rightA L)) ∧ Below W.heap.size W w' := fun W hb => right_any v L W (hL.at_ hb)
  have hT : rightA L = true → ∀ W, Below w.heap.size w W → Calls Tryz.prog 35 #[v] W fun e w' => e = .returned (.string ⟨(textA L).toArray⟩) ∧ Below W.heap.size W w' := fun h W hb => joined_any v L W (hL.at_ hb) (by
      unfold rightA headB at h
      simp at h
      omega) (by
      rintro rfl
      cases h)
  generalize rightA L = R at *
  obtain ⟨n1, n2, h3⟩ := hL
  obtain ⟨p, n, c, rfl⟩ : ∃ p n c, v = .slice p n c := by
    rcases h3 with ⟨a, rfl, -⟩ | ⟨a, off, cap, rfl, -⟩ <;> exact ⟨_, _, _, rfl⟩
  clear h3 n1
  cases R
  · go_enter Tryz.func18, Tryz.ntmps18
    go_wp2_with fail
    with_reducible refine Calls.mono (Calls.gr0 (hR _ (by repeat (first | exact Below.refl _ _ | assumption | (refine Below.setCell ?_ (by (first | omega | (simp; done) | (simp; omega) | (simp at *; omega))) _) | (refine Below.alloc ?_ (by (first | omega | (simp; done) | (simp; omega) | (simp at *; omega))) _) | (refine Below.drew ?_) | (refine Gr.into _ ?_ (by (first | omega | (simp; done) | (simp; omega) | (simp at *; omega)))))))) ?_
    rintro e w' ⟨rfl, g, rfl⟩
    have hgl := g.le
    try simp only [World.size_alloc] at hgl
    try simp only [World.size_setCell] at hgl
    go_wp2_with fail
    go_ret2
    exact ⟨rfl, (by repeat (first | exact Below.refl _ _ | assumption | (refine Below.setCell ?_ (by (first | omega | (simp; done) | (simp; omega) | (simp at *; omega))) _) | (refine Below.alloc ?_ (by (first | omega | (simp; done) | (simp; omega) | (simp at *; omega))) _) | (refine Below.drew ?_) | (refine Gr.into _ ?_ (by (first | omega | (simp; done) | (simp; omega) | (simp at *; omega))))))⟩
  · replace hT := hT rfl
    go_enter Tryz.func18, Tryz.ntmps18
    go_wp2_with fail
    with_reducible refine Calls.mono (Calls.gr0 (hR _ (by repeat (first | exact Below.refl _ _ | assumption | (refine Below.setCell ?_ (by (first | omega | (simp; done) | (simp; omega) | (simp at *; omega))) _) | (refine Below.alloc ?_ (by (first | omega | (simp; done) | (simp; omega) | (simp at *; omega))) _) | (refine Below.drew ?_) | (refine Gr.into _ ?_ (by (first | omega | (simp; done) | (simp; omega) | (simp at *; omega)))))))) ?_
    rintro e w' ⟨rfl, g, rfl⟩
    have hgl := g.le
    try simp only [World.size_alloc] at hgl
    try simp only [World.size_setCell] at hgl
    go_wp2_with fail
    with_reducible refine Calls.mono (Calls.gr (hT _ (by repeat (first | exact Below.refl _ _ | assumption | (refine Below.setCell ?_ (by (first | omega | (simp; done) | (simp; omega) | (simp at *; omega))) _) | (refine Below.alloc ?_ (by (first | omega | (simp; done) | (simp; omega) | (simp at *; omega))) _) | (refine Below.drew ?_) | (refine Gr.into _ ?_ (by (first | omega | (simp; done) | (simp; omega) | (simp at *; omega)))))))) ?_
    rintro e w' ⟨rfl, g, rfl⟩
    have hgl := g.le
    try simp only [World.size_alloc] at hgl
    try simp only [World.size_setCell] at hgl
    go_wp2_with fail
    go_ret2
    exact ⟨rfl, (by repeat (first | exact Below.refl _ _ | assumption | (refine Below.setCell ?_ (by (first | omega | (simp; done) | (simp; omega) | (simp at *; omega))) _) | (refine Below.alloc ?_ (by (first | omega | (simp; done) | (simp; omega) | (simp at *; omega))) _) | (refine Below.drew ?_) | (refine Gr.into _ ?_ (by (first | omega | (simp; done) | (simp; omega) | (simp at *; omega))))))⟩
end Go.Proofs.YtjhdgpboofcelaaGreat
