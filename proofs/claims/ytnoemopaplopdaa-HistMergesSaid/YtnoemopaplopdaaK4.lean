/- The references' put. -/
import Derived.Test.YtnoemopaplopdaaK3
import Derived.Test.YtnoemopaplopdaaFree
import Derived.Laws.OwnMore
namespace Go.Proofs.Ytnoemopaplopdaa
open Go.RowKit Go.Maps

def putR (a : Int) (n : Nat) : List (Int × Nat) → List (Int × Nat)
  | [] => if n = 0 then [] else [(a, n)]
  | (b, m) :: t => if b < a then (b, m) :: putR a n t else if n = 0 then (b, m) :: t else if b = a then (a, satU m n) :: t else (a, n) :: (b, m) :: t
theorem putR_zero (a : Int) : ∀ L : List (Int × Nat), putR a 0 L = L
  | [] => rfl
  | (b, m) :: t => by
    unfold putR
    rw [putR_zero a t]
    split <;> simp
theorem putR_same {a : Int} {n : Nat} (hn : n ≠ 0) : ∀ {L : List (Int × Nat)} {k : Nat} (hk : k < L.length), (∀ (j : Nat) (h : j < L.length), j < k → L[j].1 < a) → L[k].1 = a → putR a n L = L.take k ++ [(a, satU L[k].2 n)] ++ L.drop (k + 1)
  | (b, m) :: t, 0, _, _, h => by
    have h' : b = a := h
    unfold putR
    rw [if_neg (by omega), if_neg hn, if_pos h']
    simp
  | (b, m) :: t, k + 1, hk, hlt, h => by
    have h0 : b < a := hlt 0 (by simp) (by omega)
    unfold putR
    rw [if_pos h0, putR_same hn (L := t) (k := k) (by simpa using hk) (fun j h hj => hlt (j + 1) (by simpa using h) (by omega)) (by simpa using h)]
    simp
theorem putR_new {a : Int} {n : Nat} (hn : n ≠ 0) : ∀ {L : List (Int × Nat)} {k : Nat} (_ : k ≤ L.length), (∀ (j : Nat) (h : j < L.length), j < k → L[j].1 < a) → (∀ h : k < L.length, a < L[k].1) → putR a n L = L.take k ++ [(a, n)] ++ L.drop k
  | [], 0, _, _, _ => by simp [putR, hn]
  | (b, m) :: t, 0, _, _, h => by
    have h' : a < b := h (by simp)
    unfold putR
    rw [if_neg (by omega), if_neg hn, if_neg (by omega)]
    simp
  | (b, m) :: t, k + 1, hk, hlt, h => by
    have h0 : b < a := hlt 0 (by simp) (by omega)
    unfold putR
    rw [if_pos h0, putR_new hn (L := t) (k := k) (by simpa using hk) (fun j h hj => hlt (j + 1) (by simpa using h) (by omega)) (fun h' => h (by simpa using h'))]
    simp
theorem putR_length (a : Int) (n : Nat) : ∀ L : List (Int × Nat), (putR a n L).length ≤ L.length + 1
  | [] => by unfold putR; split <;> simp
  | (b, m) :: t => by
    have := putR_length a n t
    unfold putR
    split
    · simp only [List.length_cons]; omega
    · split
      · simp
      · split <;> simp
theorem putR_fit {a : Int} {n : Nat} (ha : -9223372036854775808 ≤ a ∧ a ≤ 9223372036854775807) (hn : n < 18446744073709551616) : ∀ {L : List (Int × Nat)}, (∀ b ∈ L, -9223372036854775808 ≤ b.1 ∧ b.1 ≤ 9223372036854775807 ∧ b.2 < 18446744073709551616) → ∀ b ∈ putR a n L, -9223372036854775808 ≤ b.1 ∧ b.1 ≤ 9223372036854775807 ∧ b.2 < 18446744073709551616
  | [], _, b, hb => by
    unfold putR at hb
    split at hb
    · cases hb
    · obtain rfl : b = (a, n) := by simpa using hb
      exact ⟨ha.1, ha.2, hn⟩
  | (c, m) :: t, h, b, hb => by
    have ih := putR_fit ha hn (L := t) fun b hb => h b (by simp [hb])
    unfold putR at hb
    split at hb
    · rcases List.mem_cons.1 hb with rfl | hb
      · exact h _ (by simp)
      · exact ih b hb
    · split at hb
      · exact h b hb
      · split at hb
        · rcases List.mem_cons.1 hb with rfl | hb
          · have : satU m n ≤ maxU := Nat.min_le_right _ _
            unfold maxU at this
            exact ⟨ha.1, ha.2, by show satU m n < _; omega⟩
          · exact h b (by simp [hb])
        · rcases List.mem_cons.1 hb with rfl | hb
          · exact ⟨ha.1, ha.2, hn⟩
          · exact h b hb

/-- What is appended: bins somewhere in memory. -/
def SrcBins (w : World) (x : Value) (K : List (Int × Nat)) : Prop :=
  ∃ p c, x = .slice p K.length c ∧ ((p = none ∧ c = 0 ∧ K = []) ∨ ∃ ad : Addr, p = some ad ∧ ∀ (j : Nat) (u : Value), (binCells K)[j]? = some u → w.cell? (ad.add j) = some u)
theorem binCells_at {w : World} {a : Nat} : ∀ {K : List (Int × Nat)} {off : Nat}, (∀ i (h : i < K.length), w.cell? ⟨a, off + i * 2, none⟩ = some (.int .i64 K[i].1) ∧ w.cell? ⟨a, off + i * 2 + 1, none⟩ = some (.int .u64 (K[i].2 : Nat))) →
    ∀ (j : Nat) (u : Value), (binCells K)[j]? = some u → w.cell? ⟨a, off + j, none⟩ = some u
  | [], _, _, j, u, hj => by simp [binCells] at hj
  | p :: K, off, h, j, u, hj => by
    have e : binCells (p :: K) = .int .i64 p.1 :: .int .u64 (p.2 : Nat) :: binCells K := by simp [binCells]
    rw [e] at hj
    rcases j with _ | _ | j
    · have := (h 0 (by simp)).1
      simp at hj this; rw [← hj]; simpa using this
    · have := (h 0 (by simp)).2
      simp at hj this; rw [← hj]; simpa using this
    · have := binCells_at (K := K) (off := off + 2) (fun i hi => by
        have := h (i + 1) (by simpa using hi)
        rw [show off + 2 + i * 2 = off + (i + 1) * 2 by omega]
        simpa using this) j u (by simpa using hj)
      rw [show off + (j + 1 + 1) = off + 2 + j by omega]
      exact this
set_option maxRecDepth 100000 in
theorem run_append_bins {w : World} (base : Nat) (ty : TypeId) {v x : Value} {M K : List (Int × Nat)} (hown : w.ownsRow base 65 2 v M.length (binCells M)) (hx : SrcBins w x K) (hl : M.length + K.length ≤ 2000000000000) (hb : base ≤ w.heap.size) :
    ∃ v' w', (Builtin.append_ #[23, 23] ty #[v, x]).run Try.prog w = .ok v' w' ∧ w'.ownsRow base 65 2 v' (M ++ K).length (binCells (M ++ K)) ∧ w.grownBy w' v.ownBlock := by
  obtain ⟨p, c, rfl, ⟨rfl, rfl, rfl⟩ | ⟨ad, rfl, hc⟩⟩ := hx
  · refine ⟨v, w, run_append_owned_none (P := Try.prog) w base 23 ty 65 _ 2 Try.underlying23 rfl v M.length _ hown, by simpa using hown, ?_⟩
    exact ⟨rfl, rfl, rfl, Nat.le_refl _, fun _ _ _ => rfl⟩
  · obtain ⟨v', w', h1, h2, h3, -⟩ := run_append_own (P := Try.prog) w base 23 ty 65 _ (.agg #[.int .i64 0, .int .u64 0]) 2 16 Try.underlying23 rfl rfl rfl rfl rfl (by omega) v M.length _ hown ad K.length c (binCells K) (binCells_length K) hc
      (fun u hu => by
        obtain ⟨b, -, hb⟩ := List.mem_flatMap.1 hu
        simp at hb
        rcases hb with rfl | rfl <;> rfl) (by unfold maxLen; omega) (by omega) hb
    refine ⟨v', w', h1, ?_, h3⟩
    have e1 : (M ++ K).length = M.length + K.length := by simp
    have e2 : binCells (M ++ K) = binCells M ++ binCells K := by simp [binCells]
    rw [e1, e2]
    exact h2
theorem wp_append_bins {w : World} {o : Oper} {a : Act} {R : Act → World → Prop} {Q : Exit → Act → World → Prop} (s x : Operand) (ho : o.op = .call { callee := .builtin .append, args := #[s, x], argTypes := #[23, 23] })
    (base : Nat) (v u : Value) (M K : List (Int × Nat)) (hs : a.eval s = v) (hxv : a.eval x = u) (hown : w.ownsRow base 65 2 v M.length (binCells M)) (hx : SrcBins w u K) (hl : M.length + K.length ≤ 2000000000000) (hb : base ≤ w.heap.size)
    (h : ∀ v' w', w'.ownsRow base 65 2 v' (M ++ K).length (binCells (M ++ K)) → w.grownBy w' v.ownBlock → R (a.put o.dst v') w') : o.wp Try.prog a w R Q := by
  obtain ⟨v', w', hr, h2, h3⟩ := run_append_bins base o.type hown hx hl hb
  unfold Oper.wp execOp
  simp only [ho, resolve, invoke, builtin, Sem.run_bind, Sem.run_pure, Result.andThen_ok, List.map_toArray, List.map_cons, List.map_nil, hs, hxv, hr]
  exact h v' w' h2 h3
theorem wpList_append_bins {w : World} {ops : Array Oper} {rest : List Oper} {o : Oper} {a : Act} {Q : Exit → Act → World → Prop} (hgd : o.guard = none) (s x : Operand) (ho : o.op = .call { callee := .builtin .append, args := #[s, x], argTypes := #[23, 23] })
    (base : Nat) (v u : Value) (M K : List (Int × Nat)) (hs : a.eval s = v) (hxv : a.eval x = u) (hown : w.ownsRow base 65 2 v M.length (binCells M)) (hx : SrcBins w u K) (hl : M.length + K.length ≤ 2000000000000) (hb : base ≤ w.heap.size)
    (h : ∀ v' w', w'.ownsRow base 65 2 v' (M ++ K).length (binCells (M ++ K)) → w.grownBy w' v.ownBlock → wpList Try.prog ops Q rest (a.put o.dst v') w') : wpList Try.prog ops Q (o :: rest) a w :=
  wpList_plain hgd fun R hR => wp_append_bins s x ho base v u M K hs hxv hown hx hl hb fun v' w' h1 h2 => hR _ _ (h v' w' h1 h2)
theorem SrcBins.of {w : World} {a off c : Nat} {K : List (Int × Nat)} (h : ∀ i (h : i < K.length), w.cell? ⟨a, off + i * 2, none⟩ = some (.int .i64 K[i].1) ∧ w.cell? ⟨a, off + i * 2 + 1, none⟩ = some (.int .u64 (K[i].2 : Nat))) : SrcBins w (.slice (some ⟨a, off, none⟩) K.length c) K :=
  ⟨_, c, rfl, .inr ⟨_, rfl, fun j u hj => by
    have := binCells_at h j u hj
    have e : (⟨a, off, none⟩ : Addr).add j = ⟨a, off + j, none⟩ := by by_cases h0 : j = 0 <;> simp [Addr.add, h0]
    rw [e]; exact this⟩⟩
theorem SrcBins.none' {w : World} {p : Option Addr} : SrcBins w (.slice p 0 0) [] := by
  rcases p with _ | ad
  · exact ⟨none, 0, rfl, .inl ⟨rfl, rfl, rfl⟩⟩
  · exact ⟨some ad, 0, rfl, .inr ⟨ad, rfl, fun j u hj => by simp [binCells] at hj⟩⟩
theorem SrcBins.take {B : Nat} {w W : World} {p : Option Addr} {n cap : Nat} {L : List (Int × Nat)} (h : BinsAt B w (.slice p n cap) L) (hb : Below B w W) (k : Nat) (hk : k ≤ L.length) : SrcBins W (.slice p k cap) (L.take k) := by
  have hlt : (L.take k).length = k := by simp; omega
  obtain ⟨-, -, ⟨a, h1, rfl⟩ | ⟨a, off, c, h1, h2, h3, h4⟩⟩ := h
  · have h5 : p = a ∧ n = 0 ∧ cap = 0 := by simpa using h1
    obtain ⟨rfl, rfl, rfl⟩ := h5
    obtain rfl : k = 0 := by simpa using hk
    exact SrcBins.none'
  · have h5 : p = some ⟨a, off, none⟩ ∧ n = L.length ∧ cap = c := by simpa using h1
    obtain ⟨rfl, rfl, rfl⟩ := h5
    have := SrcBins.of (w := W) (a := a) (off := off) (c := cap) (K := L.take k) fun i hi => by
      rw [List.getElem_take, hb.cell (by show a < B; omega), hb.cell (by show a < B; omega)]
      exact h4 i (by omega)
    rwa [hlt] at this
/-- l[k:], as the model has it. -/
theorem SrcBins.drop1 {w : World} {p : Option Addr} {L : List (Int × Nat)} {k cap : Nat} (hc : cap = k) (hk : k ≤ L.length) (hl : L.length ≤ cap) : SrcBins w (.slice p (L.length - k) 0) (L.drop k) := by
  have h0 : L.drop k = [] := List.drop_eq_nil_of_le (by omega)
  rw [h0, show L.length - k = 0 by omega]
  exact SrcBins.none'
theorem SrcBins.drop2 {B : Nat} {w W : World} {p : Option Addr} {n cap : Nat} {L : List (Int × Nat)} (h : BinsAt B w (.slice p n cap) L) (hb : Below B w W) (k : Nat) (hc : cap ≠ k) (hk : k ≤ L.length) : SrcBins W (.slice (Option.map (fun x => x.add (k * 2)) p) (L.length - k) (cap - k)) (L.drop k) := by
  have hlt : (L.drop k).length = L.length - k := by simp
  obtain ⟨-, -, ⟨a, h1, rfl⟩ | ⟨a, off, c, h1, h2, h3, h4⟩⟩ := h
  · have h5 : p = a ∧ n = 0 ∧ cap = 0 := by simpa using h1
    obtain ⟨rfl, rfl, rfl⟩ := h5
    simp at hk
    omega
  · have h5 : p = some ⟨a, off, none⟩ ∧ n = L.length ∧ cap = c := by simpa using h1
    obtain ⟨rfl, rfl, rfl⟩ := h5
    have := SrcBins.of (w := W) (a := a) (off := off + k * 2) (c := cap - k) (K := L.drop k) fun i hi => by
      rw [List.getElem_drop, hb.cell (by show a < B; omega), hb.cell (by show a < B; omega)]
      have := h4 (k + i) (by omega)
      rw [Nat.add_mul, ← Nat.add_assoc] at this
      exact this
    rw [hlt] at this
    have e : Option.map (fun x : Addr => x.add (k * 2)) (some ⟨a, off, none⟩) = some ⟨a, off + k * 2, none⟩ := by
      by_cases h0 : k = 0
      · subst h0; simp [Addr.add]
      · have h1 : k * 2 ≠ 0 := by omega
        simp [Addr.add, h1]
    rw [e]
    exact this
set_option maxRecDepth 100000 in
set_option maxHeartbeats 4000000 in
theorem rput_any (v : Value) (L : List (Int × Nat)) (a : Int) (n : Nat) (w : World) (hL : BinsAt w.heap.size w v L) (ha : -9223372036854775808 ≤ a ∧ a ≤ 9223372036854775807) (hn : n < 18446744073709551616) (hlen : L.length ≤ 1000000000000) :
    Calls Try.prog 41 #[v, .int .i64 a, .int .u64 n] w fun e w' => ∃ v', e = .returned v' ∧ BinsAt w'.heap.size w' v' (putR a n L) ∧ Below w.heap.size w w' ∧ (v' = v ∨ ∀ k, v'.ownBlock = some k → w.heap.size ≤ k) := by
  obtain ⟨p, cap, rfl, hl2, hp⟩ := hL.form
  have hfit := putR_fit (n := n) ha hn hL.1
  have hlenR := putR_length a n L
  have hcap : L.length ≤ cap := by
    obtain ⟨-, -, ⟨q, h1, rfl⟩ | ⟨q, off, c, h1, h2, h3, h4⟩⟩ := id hL
    · simp
    · have h5 : cap = c := by simp at h1; exact h1.2
      omega
  go_enter Try.func41, Try.ntmps41
  go_wp2
  go_loopw [7] (fun i wr => ∃ k : Nat, k ≤ L.length ∧ i = .int .i64 k ∧ (∀ (j : Nat) (h : j < L.length), j < k → L[j].1 < a) ∧ w = wr)
    (fun i _ => L.length - (intOf i).toNat)
  case atStart => exact ⟨0, by omega, rfl, fun j _ h => by omega, rfl⟩
  case round =>
    obtain ⟨k, hk, rfl, hlt, rfl⟩ := hrel
    by_cases hgo : ∃ h : k < L.length, L[k].1 < a
    · obtain ⟨hlk, hka⟩ := hgo
      obtain ⟨b, off, rfl, hb, hc⟩ := hp (by rintro rfl; simp at hlk)
      obtain ⟨hc0, hc1⟩ := hc k hlk
      have hki : (k : Int) < L.length := by omega
      go_wp2
      go_roundw
      case rel => exact ⟨k + 1, by omega, by go_num, fun j hj h => by
        rcases Nat.lt_or_ge j k with h1 | h1
        · exact hlt j hj h1
        · obtain rfl : j = k := by omega
          exact hka, by first | rfl | trivial⟩
      case measure => simp [intOf]; omega
    · have hz : n = 0 → putR a n L = L := fun h => by subst h; exact putR_zero a L
      by_cases hlk : k < L.length
      · have hka : ¬ L[k].1 < a := fun h => hgo ⟨hlk, h⟩
        obtain ⟨b, off, rfl, hb, hc⟩ := hp (by rintro rfl; simp at hlk)
        obtain ⟨hc0, hc1⟩ := hc k hlk
        have hki : (k : Int) < L.length := by omega
        have hsame := fun (hn0 : n ≠ 0) (h : L[k].1 = a) => putR_same hn0 hlk hlt h
        have hnew := fun (hn0 : n ≠ 0) (h : a < L[k].1) => putR_new hn0 hk hlt (fun _ => h)
        have hm : L[k].2 ≤ maxU := by have := (hL.1 _ (List.getElem_mem hlk)).2.2; unfold maxU; omega
        clear hc hgo hp
        generalize L[k] = y at *
        obtain ⟨q, m⟩ := y
        simp only at hsame hnew hm hka
        have hka2 : a ≤ q := by omega
        by_cases hn0 : n = 0
        · have hput := hz hn0
          subst hn0
          go_wp2
          go_ret
          exact ⟨_, rfl, by first | exact hL | (rw [hput]; exact hL), Below.refl _ _, .inl rfl⟩
        · have hn1 : ((n : Int) == 0) = false := by simp; omega
          have hcI : (L.length : Int) ≤ cap := by omega
          by_cases hqa : q = a
          · have HP := Lib.hid (hsame hn0 hqa)
            have hqa' := hqa.symm
            subst hqa'
            clear hsame hnew hz
            by_cases hck : cap = k + 1
            · subst hck
              go_wp2_with (at_builtin; refine wpList_append_bins rfl _ _ rfl w.heap.size _ _ [] (L.take k) rfl rfl (World.ownsRow_nil _ _ _ _) (SrcBins.take hL (Below.refl _ _) k hk) (by simp; omega) (Nat.le_refl _) ?_; intro v1 Y1 hown1 (hgr1 : w.grownBy Y1 none); have hB1 : Below w.heap.size w Y1 := (Below.refl _ _).grown hgr1 (Nat.le_refl _) (fun b e => by cases e); have hs1 := hB1.size; have hc0 : Y1.cell? ⟨b, off + k * 2, none⟩ = some (.int .i64 _) := (hB1.cell (p := ⟨b, off + k * 2, none⟩) hb).trans hc0; have hc1 : Y1.cell? ⟨b, off + k * 2 + 1, none⟩ = some (.int .u64 _) := (hB1.cell (p := ⟨b, off + k * 2 + 1, none⟩) hb).trans hc1; have hbl : b < Y1.heap.size := by omega)
              simp only [List.nil_append] at hown1
              go_wp2
              refine wp_region_gr_free 8 10 [11, 16, 17] (by kernel_rfl) (by kernel_rfl) ?_
              simp only [List.take_succ_cons, List.take_zero]
              repeat (go_big_quiet_step (first | fail))
              refine wpQuiet_nil ?_
              intro g
              have hgl := g.le
              refine wpAnyC_pureL 12 (by kernel_rfl) ?_
              simp only [List.drop_succ_cons, List.drop_zero, List.take_succ_cons, List.take_zero]
              go_big_quiet_step (first | fail)
              refine wpQuiet_nil ?_
              refine wpAnyC_pureL 13 (by kernel_rfl) ?_
              simp only [List.drop_succ_cons, List.drop_zero, List.take_succ_cons, List.take_zero]
              go_big_quiet_step (first | fail)
              refine wpQuiet_nil ?_
              refine wpAnyC_pureL 14 (by kernel_rfl) ?_
              simp only [List.drop_succ_cons, List.drop_zero, List.take_succ_cons, List.take_zero]
              go_big_quiet_step (first | fail)
              refine wpQuiet_nil ?_
              refine wpAnyC_pureL 15 (by kernel_rfl) ?_
              simp only [List.drop_succ_cons, List.drop_zero, List.take_succ_cons, List.take_zero]
              go_big_quiet_step (first | fail)
              refine wpQuiet_nil ?_
              refine wpAnyC_one 8 rfl rfl (by kernel_rfl) (fun K hK => ?_)
              go_wp2_with fail
              refine Calls.mono (plus_any m n _ hm (by unfold maxU; omega)) ?_
              rintro e W2 ⟨rfl, hb2⟩
              have hB2 : Below Y1.heap.size Y1 W2 := g.below.trans (hb2.mono hgl)
              have hs2 := hB2.size
              go_wp2_with fail
              refine hK _ _ (.inr (Gr.of hB2)) ?_
              refine wpAnyC_pureL 9 (by kernel_rfl) ?_
              simp only [List.drop_succ_cons, List.drop_zero, List.take_succ_cons, List.take_zero]
              go_big_quiet_step (first | fail)
              refine wpQuiet_nil ?_
              refine wpAnyC_one 10 rfl rfl (by kernel_rfl) (fun K hK => ?_)
              go_wp2
              refine hK _ _ (.inr (Gr.of (hB2.alloc hs2 _))) ?_
              have rX := RowAt.new_at W2 #[.int .i64 a, .int .u64 (satU m n : Nat)] 65 W2.heap.size rfl
              refine wpAnyC_one 11 rfl rfl (by kernel_rfl) (fun K hK => ?_)
              refine wp_append_bins (.tmp 45) (.tmp 55) rfl w.heap.size v1 _ (L.take k) [(a, satU m n)] rfl rfl (World.ownsRow.alloc (ownsRow_below hown1 hB2) _) (SrcBins.of (K := [(a, satU m n)]) (fun i hi => by
                obtain rfl : i = 0 := by simpa using hi
                exact ⟨rX.cell 0 (by simp), rX.cell 1 (by simp)⟩)) (by simp; omega) (by simp; omega) ?_
              intro v2 Y2 hown2 hgr2
              refine hK _ _ (.inl rfl) ?_
              have hB4 : Below w.heap.size w Y2 := ((hB1.trans (hB2.mono hs1)).alloc (by omega) _).grown hgr2 (by simp; omega) (fun b e => (hown1.lt b e).1)
              refine wpAnyC_one 16 rfl rfl (by kernel_rfl) (fun K hK => ?_)
              refine wp_append_bins (.tmp 56) (.tmp 60) rfl w.heap.size v2 _ (L.take k ++ [(a, satU m n)]) (L.drop (k + 1)) rfl rfl hown2 (by have e : L.drop (k + 1) = [] := List.drop_eq_nil_of_le (by omega); rw [e]; simpa [go_sem] using (SrcBins.none' (w := Y2) (p := some ⟨b, off, none⟩))) (by simp; omega) hB4.size ?_
              intro v3 Y3 hown3 hgr3
              refine hK _ _ (.inl rfl) ?_
              have hB5 : Below w.heap.size w Y3 := hB4.grown hgr3 hB4.size (fun b e => (hown2.lt b e).1)
              refine wpAnyC_one 17 rfl rfl (by kernel_rfl) (fun K hK => ?_)
              go_wp2
              refine hK _ _ (.inl rfl) ?_
              refine wpAnyC_end (by kernel_rfl) ?_
              go_wp2
              go_ret
              have hput : putR a n L = L.take k ++ [(a, satU m n)] ++ L.drop (k + 1) := HP.out
              rw [← hput] at hown3
              exact ⟨_, rfl, BinsAt.of_own hown3 hfit (by omega), hB5, .inr fun b e => (hown3.lt b e).1⟩
            · go_wp2_with (at_builtin; refine wpList_append_bins rfl _ _ rfl w.heap.size _ _ [] (L.take k) rfl rfl (World.ownsRow_nil _ _ _ _) (SrcBins.take hL (Below.refl _ _) k hk) (by simp; omega) (Nat.le_refl _) ?_; intro v1 Y1 hown1 (hgr1 : w.grownBy Y1 none); have hB1 : Below w.heap.size w Y1 := (Below.refl _ _).grown hgr1 (Nat.le_refl _) (fun b e => by cases e); have hs1 := hB1.size; have hc0 : Y1.cell? ⟨b, off + k * 2, none⟩ = some (.int .i64 _) := (hB1.cell (p := ⟨b, off + k * 2, none⟩) hb).trans hc0; have hc1 : Y1.cell? ⟨b, off + k * 2 + 1, none⟩ = some (.int .u64 _) := (hB1.cell (p := ⟨b, off + k * 2 + 1, none⟩) hb).trans hc1; have hbl : b < Y1.heap.size := by omega)
              simp only [List.nil_append] at hown1
              go_wp2
              refine wp_region_gr_free 8 10 [11, 16, 17] (by kernel_rfl) (by kernel_rfl) ?_
              simp only [List.take_succ_cons, List.take_zero]
              repeat (go_big_quiet_step (first | fail))
              refine wpQuiet_nil ?_
              intro g
              have hgl := g.le
              refine wpAnyC_pureL 12 (by kernel_rfl) ?_
              simp only [List.drop_succ_cons, List.drop_zero, List.take_succ_cons, List.take_zero]
              go_big_quiet_step (first | fail)
              refine wpQuiet_nil ?_
              refine wpAnyC_pureL 13 (by kernel_rfl) ?_
              simp only [List.drop_succ_cons, List.drop_zero, List.take_succ_cons, List.take_zero]
              go_big_quiet_step (first | fail)
              refine wpQuiet_nil ?_
              refine wpAnyC_pureL 14 (by kernel_rfl) ?_
              simp only [List.drop_succ_cons, List.drop_zero, List.take_succ_cons, List.take_zero]
              go_big_quiet_step (first | fail)
              refine wpQuiet_nil ?_
              refine wpAnyC_pureL 15 (by kernel_rfl) ?_
              simp only [List.drop_succ_cons, List.drop_zero, List.take_succ_cons, List.take_zero]
              go_big_quiet_step (first | fail)
              refine wpQuiet_nil ?_
              refine wpAnyC_one 8 rfl rfl (by kernel_rfl) (fun K hK => ?_)
              go_wp2_with fail
              refine Calls.mono (plus_any m n _ hm (by unfold maxU; omega)) ?_
              rintro e W2 ⟨rfl, hb2⟩
              have hB2 : Below Y1.heap.size Y1 W2 := g.below.trans (hb2.mono hgl)
              have hs2 := hB2.size
              go_wp2_with fail
              refine hK _ _ (.inr (Gr.of hB2)) ?_
              refine wpAnyC_pureL 9 (by kernel_rfl) ?_
              simp only [List.drop_succ_cons, List.drop_zero, List.take_succ_cons, List.take_zero]
              go_big_quiet_step (first | fail)
              refine wpQuiet_nil ?_
              refine wpAnyC_one 10 rfl rfl (by kernel_rfl) (fun K hK => ?_)
              go_wp2
              refine hK _ _ (.inr (Gr.of (hB2.alloc hs2 _))) ?_
              have rX := RowAt.new_at W2 #[.int .i64 a, .int .u64 (satU m n : Nat)] 65 W2.heap.size rfl
              refine wpAnyC_one 11 rfl rfl (by kernel_rfl) (fun K hK => ?_)
              refine wp_append_bins (.tmp 45) (.tmp 55) rfl w.heap.size v1 _ (L.take k) [(a, satU m n)] rfl rfl (World.ownsRow.alloc (ownsRow_below hown1 hB2) _) (SrcBins.of (K := [(a, satU m n)]) (fun i hi => by
                obtain rfl : i = 0 := by simpa using hi
                exact ⟨rX.cell 0 (by simp), rX.cell 1 (by simp)⟩)) (by simp; omega) (by simp; omega) ?_
              intro v2 Y2 hown2 hgr2
              refine hK _ _ (.inl rfl) ?_
              have hB4 : Below w.heap.size w Y2 := ((hB1.trans (hB2.mono hs1)).alloc (by omega) _).grown hgr2 (by simp; omega) (fun b e => (hown1.lt b e).1)
              refine wpAnyC_one 16 rfl rfl (by kernel_rfl) (fun K hK => ?_)
              refine wp_append_bins (.tmp 56) (.tmp 60) rfl w.heap.size v2 _ (L.take k ++ [(a, satU m n)]) (L.drop (k + 1)) rfl rfl hown2 (SrcBins.drop2 hL hB4 (k + 1) hck (by omega)) (by simp; omega) hB4.size ?_
              intro v3 Y3 hown3 hgr3
              refine hK _ _ (.inl rfl) ?_
              have hB5 : Below w.heap.size w Y3 := hB4.grown hgr3 hB4.size (fun b e => (hown2.lt b e).1)
              refine wpAnyC_one 17 rfl rfl (by kernel_rfl) (fun K hK => ?_)
              go_wp2
              refine hK _ _ (.inl rfl) ?_
              refine wpAnyC_end (by kernel_rfl) ?_
              go_wp2
              go_ret
              have hput : putR a n L = L.take k ++ [(a, satU m n)] ++ L.drop (k + 1) := HP.out
              rw [← hput] at hown3
              exact ⟨_, rfl, BinsAt.of_own hown3 hfit (by omega), hB5, .inr fun b e => (hown3.lt b e).1⟩
          · have HP := Lib.hid (hnew hn0 (by omega))
            have hqa2 : (q == a) = false := by simpa using hqa
            clear hsame hnew hz
            have hck : cap ≠ k := by omega
            go_wp2_with (at_builtin; refine wpList_append_bins rfl _ _ rfl w.heap.size _ _ [] (L.take k) rfl rfl (World.ownsRow_nil _ _ _ _) (SrcBins.take hL (Below.refl _ _) k hk) (by simp; omega) (Nat.le_refl _) ?_; intro v1 Y1 hown1 (hgr1 : w.grownBy Y1 none); have hB1 : Below w.heap.size w Y1 := (Below.refl _ _).grown hgr1 (Nat.le_refl _) (fun b e => by cases e); have hs1 := hB1.size; have hc0 : Y1.cell? ⟨b, off + k * 2, none⟩ = some (.int .i64 _) := (hB1.cell (p := ⟨b, off + k * 2, none⟩) hb).trans hc0; have hc1 : Y1.cell? ⟨b, off + k * 2 + 1, none⟩ = some (.int .u64 _) := (hB1.cell (p := ⟨b, off + k * 2 + 1, none⟩) hb).trans hc1; have hbl : b < Y1.heap.size := by omega)
            simp only [List.nil_append] at hown1
            go_wp2
            refine wp_region_gr_free 4 7 [5, 9, 10] (by kernel_rfl) (by kernel_rfl) ?_
            simp only [List.take_succ_cons, List.take_zero]
            repeat (go_big_quiet_step (first | fail))
            refine wpQuiet_nil ?_
            intro g
            have hgl := g.le
            refine wpAnyC_pureL 6 (by kernel_rfl) ?_
            simp only [List.drop_succ_cons, List.drop_zero, List.take_succ_cons, List.take_zero]
            go_big_quiet_step (first | fail)
            refine wpQuiet_nil ?_
            refine wpAnyC_pureL 7 (by kernel_rfl) ?_
            simp only [List.drop_succ_cons, List.drop_zero, List.take_succ_cons, List.take_zero]
            go_big_quiet_step (first | fail)
            refine wpQuiet_nil ?_
            refine wpAnyC_pureL 8 (by kernel_rfl) ?_
            simp only [List.drop_succ_cons, List.drop_zero, List.take_succ_cons, List.take_zero]
            go_big_quiet_step (first | fail)
            refine wpQuiet_nil ?_
            refine wpAnyC_one 4 rfl rfl (by kernel_rfl) (fun K hK => ?_)
            go_wp2
            refine hK _ _ (.inr (Gr.of (g.below.alloc hgl _))) ?_
            have rX := RowAt.new_at g.world #[.int .i64 a, .int .u64 (n : Nat)] 65 g.world.heap.size rfl
            refine wpAnyC_one 5 rfl rfl (by kernel_rfl) (fun K hK => ?_)
            refine wp_append_bins (.tmp 62) (.tmp 66) rfl w.heap.size v1 _ (L.take k) [(a, n)] rfl rfl (World.ownsRow.alloc (ownsRow_below hown1 g.below) _) (SrcBins.of (K := [(a, n)]) (fun i hi => by
              obtain rfl : i = 0 := by simpa using hi
              exact ⟨rX.cell 0 (by simp), rX.cell 1 (by simp)⟩)) (by simp; omega) (by simp; omega) ?_
            intro v2 Y2 hown2 hgr2
            refine hK _ _ (.inl rfl) ?_
            have hB4 : Below w.heap.size w Y2 := ((hB1.trans (g.below.mono hs1)).alloc (by omega) _).grown hgr2 (by simp; omega) (fun b e => (hown1.lt b e).1)
            refine wpAnyC_one 9 rfl rfl (by kernel_rfl) (fun K hK => ?_)
            refine wp_append_bins (.tmp 67) (.tmp 70) rfl w.heap.size v2 _ (L.take k ++ [(a, n)]) (L.drop k) rfl rfl hown2 (by simpa [go_sem] using SrcBins.drop2 hL hB4 k hck (by omega)) (by simp; omega) hB4.size ?_
            intro v3 Y3 hown3 hgr3
            refine hK _ _ (.inl rfl) ?_
            have hB5 : Below w.heap.size w Y3 := hB4.grown hgr3 hB4.size (fun b e => (hown2.lt b e).1)
            refine wpAnyC_one 10 rfl rfl (by kernel_rfl) (fun K hK => ?_)
            go_wp2
            refine hK _ _ (.inl rfl) ?_
            refine wpAnyC_end (by kernel_rfl) ?_
            go_wp2
            go_ret
            have hput : putR a n L = L.take k ++ [(a, n)] ++ L.drop k := HP.out
            rw [← hput] at hown3
            exact ⟨_, rfl, BinsAt.of_own hown3 hfit (by omega), hB5, .inr fun b e => (hown3.lt b e).1⟩
      · obtain rfl : k = L.length := by omega
        by_cases hn0 : n = 0
        · have hput := hz hn0
          subst hn0
          go_wp2
          go_ret
          exact ⟨_, rfl, by first | exact hL | (rw [hput]; exact hL), Below.refl _ _, .inl rfl⟩
        · have hn1 : ((n : Int) == 0) = false := by simp; omega
          have hcI : (L.length : Int) ≤ cap := by omega
          have HP := Lib.hid (putR_new hn0 (Nat.le_refl _) hlt (fun h => by omega))
          clear hz hgo hp
          by_cases hck : cap = L.length
          · subst hck
            go_wp2_with (at_builtin; refine wpList_append_bins rfl _ _ rfl w.heap.size _ _ [] (L.take L.length) rfl rfl (World.ownsRow_nil _ _ _ _) (SrcBins.take hL (Below.refl _ _) L.length hk) (by simp; omega) (Nat.le_refl _) ?_; intro v1 Y1 hown1 (hgr1 : w.grownBy Y1 none); have hB1 : Below w.heap.size w Y1 := (Below.refl _ _).grown hgr1 (Nat.le_refl _) (fun b e => by cases e); have hs1 := hB1.size; skip)
            simp only [List.nil_append] at hown1
            go_wp2
            refine wp_region_gr_free 4 7 [5, 9, 10] (by kernel_rfl) (by kernel_rfl) ?_
            simp only [List.take_succ_cons, List.take_zero]
            repeat (go_big_quiet_step (first | fail))
            refine wpQuiet_nil ?_
            intro g
            have hgl := g.le
            refine wpAnyC_pureL 6 (by kernel_rfl) ?_
            simp only [List.drop_succ_cons, List.drop_zero, List.take_succ_cons, List.take_zero]
            go_big_quiet_step (first | fail)
            refine wpQuiet_nil ?_
            refine wpAnyC_pureL 7 (by kernel_rfl) ?_
            simp only [List.drop_succ_cons, List.drop_zero, List.take_succ_cons, List.take_zero]
            go_big_quiet_step (first | fail)
            refine wpQuiet_nil ?_
            refine wpAnyC_pureL 8 (by kernel_rfl) ?_
            simp only [List.drop_succ_cons, List.drop_zero, List.take_succ_cons, List.take_zero]
            go_big_quiet_step (first | fail)
            refine wpQuiet_nil ?_
            refine wpAnyC_one 4 rfl rfl (by kernel_rfl) (fun K hK => ?_)
            go_wp2
            refine hK _ _ (.inr (Gr.of (g.below.alloc hgl _))) ?_
            have rX := RowAt.new_at g.world #[.int .i64 a, .int .u64 (n : Nat)] 65 g.world.heap.size rfl
            refine wpAnyC_one 5 rfl rfl (by kernel_rfl) (fun K hK => ?_)
            refine wp_append_bins (.tmp 62) (.tmp 66) rfl w.heap.size v1 _ (L.take L.length) [(a, n)] rfl rfl (World.ownsRow.alloc (ownsRow_below hown1 g.below) _) (SrcBins.of (K := [(a, n)]) (fun i hi => by
              obtain rfl : i = 0 := by simpa using hi
              exact ⟨rX.cell 0 (by simp), rX.cell 1 (by simp)⟩)) (by simp; omega) (by simp; omega) ?_
            intro v2 Y2 hown2 hgr2
            refine hK _ _ (.inl rfl) ?_
            have hB4 : Below w.heap.size w Y2 := ((hB1.trans (g.below.mono hs1)).alloc (by omega) _).grown hgr2 (by simp; omega) (fun b e => (hown1.lt b e).1)
            refine wpAnyC_one 9 rfl rfl (by kernel_rfl) (fun K hK => ?_)
            refine wp_append_bins (.tmp 67) (.tmp 70) rfl w.heap.size v2 _ (L.take L.length ++ [(a, n)]) (L.drop L.length) rfl rfl hown2 (by simpa [go_sem] using (SrcBins.none' (w := Y2) (p := p))) (by simp; omega) hB4.size ?_
            intro v3 Y3 hown3 hgr3
            refine hK _ _ (.inl rfl) ?_
            have hB5 : Below w.heap.size w Y3 := hB4.grown hgr3 hB4.size (fun b e => (hown2.lt b e).1)
            refine wpAnyC_one 10 rfl rfl (by kernel_rfl) (fun K hK => ?_)
            go_wp2
            refine hK _ _ (.inl rfl) ?_
            refine wpAnyC_end (by kernel_rfl) ?_
            go_wp2
            go_ret
            have hput : putR a n L = L.take L.length ++ [(a, n)] ++ L.drop L.length := HP.out
            rw [← hput] at hown3
            exact ⟨_, rfl, BinsAt.of_own hown3 hfit (by omega), hB5, .inr fun b e => (hown3.lt b e).1⟩
          · go_wp2_with (at_builtin; refine wpList_append_bins rfl _ _ rfl w.heap.size _ _ [] (L.take L.length) rfl rfl (World.ownsRow_nil _ _ _ _) (SrcBins.take hL (Below.refl _ _) L.length hk) (by simp; omega) (Nat.le_refl _) ?_; intro v1 Y1 hown1 (hgr1 : w.grownBy Y1 none); have hB1 : Below w.heap.size w Y1 := (Below.refl _ _).grown hgr1 (Nat.le_refl _) (fun b e => by cases e); have hs1 := hB1.size; skip)
            simp only [List.nil_append] at hown1
            go_wp2
            refine wp_region_gr_free 4 7 [5, 9, 10] (by kernel_rfl) (by kernel_rfl) ?_
            simp only [List.take_succ_cons, List.take_zero]
            repeat (go_big_quiet_step (first | fail))
            refine wpQuiet_nil ?_
            intro g
            have hgl := g.le
            refine wpAnyC_pureL 6 (by kernel_rfl) ?_
            simp only [List.drop_succ_cons, List.drop_zero, List.take_succ_cons, List.take_zero]
            go_big_quiet_step (first | fail)
            refine wpQuiet_nil ?_
            refine wpAnyC_pureL 7 (by kernel_rfl) ?_
            simp only [List.drop_succ_cons, List.drop_zero, List.take_succ_cons, List.take_zero]
            go_big_quiet_step (first | fail)
            refine wpQuiet_nil ?_
            refine wpAnyC_pureL 8 (by kernel_rfl) ?_
            simp only [List.drop_succ_cons, List.drop_zero, List.take_succ_cons, List.take_zero]
            go_big_quiet_step (first | fail)
            refine wpQuiet_nil ?_
            refine wpAnyC_one 4 rfl rfl (by kernel_rfl) (fun K hK => ?_)
            go_wp2
            refine hK _ _ (.inr (Gr.of (g.below.alloc hgl _))) ?_
            have rX := RowAt.new_at g.world #[.int .i64 a, .int .u64 (n : Nat)] 65 g.world.heap.size rfl
            refine wpAnyC_one 5 rfl rfl (by kernel_rfl) (fun K hK => ?_)
            refine wp_append_bins (.tmp 62) (.tmp 66) rfl w.heap.size v1 _ (L.take L.length) [(a, n)] rfl rfl (World.ownsRow.alloc (ownsRow_below hown1 g.below) _) (SrcBins.of (K := [(a, n)]) (fun i hi => by
              obtain rfl : i = 0 := by simpa using hi
              exact ⟨rX.cell 0 (by simp), rX.cell 1 (by simp)⟩)) (by simp; omega) (by simp; omega) ?_
            intro v2 Y2 hown2 hgr2
            refine hK _ _ (.inl rfl) ?_
            have hB4 : Below w.heap.size w Y2 := ((hB1.trans (g.below.mono hs1)).alloc (by omega) _).grown hgr2 (by simp; omega) (fun b e => (hown1.lt b e).1)
            refine wpAnyC_one 9 rfl rfl (by kernel_rfl) (fun K hK => ?_)
            refine wp_append_bins (.tmp 67) (.tmp 70) rfl w.heap.size v2 _ (L.take L.length ++ [(a, n)]) (L.drop L.length) rfl rfl hown2 (by simpa [go_sem] using SrcBins.drop2 hL hB4 L.length hck (Nat.le_refl _)) (by simp; omega) hB4.size ?_
            intro v3 Y3 hown3 hgr3
            refine hK _ _ (.inl rfl) ?_
            have hB5 : Below w.heap.size w Y3 := hB4.grown hgr3 hB4.size (fun b e => (hown2.lt b e).1)
            refine wpAnyC_one 10 rfl rfl (by kernel_rfl) (fun K hK => ?_)
            go_wp2
            refine hK _ _ (.inl rfl) ?_
            refine wpAnyC_end (by kernel_rfl) ?_
            go_wp2
            go_ret
            have hput : putR a n L = L.take L.length ++ [(a, n)] ++ L.drop L.length := HP.out
            rw [← hput] at hown3
            exact ⟨_, rfl, BinsAt.of_own hown3 hfit (by omega), hB5, .inr fun b e => (hown3.lt b e).1⟩
end Go.Proofs.Ytnoemopaplopdaa
