/- The references: put (labels). -/
import Derived.Test.YtjhdgpboofcelaaGreatER
import Derived.Laws.OwnMore
namespace Go.Proofs.YtjhdgpboofcelaaGreat
open Go.RowKit

def putL (x : BLab) : List BLab → List BLab
  | [] => [x]
  | y :: t => if cmpB y.1 x.1 < 0 then y :: putL x t else x :: y :: t
theorem putL_at (x : BLab) : ∀ (L : List BLab) (k : Nat), k ≤ L.length → (∀ (j : Nat) (h : j < L.length), j < k → cmpB L[j].1 x.1 < 0) → (∀ h : k < L.length, ¬ cmpB L[k].1 x.1 < 0) → putL x L = L.take k ++ [x] ++ L.drop k
  | [], 0, _, _, _ => rfl
  | [], k + 1, h, _, _ => by simp at h
  | y :: t, 0, _, _, h => by
    have h' : ¬ cmpB y.1 x.1 < 0 := h (by simp)
    rw [putL, if_neg h']
    rfl
  | y :: t, k + 1, hk, h1, h2 => by
    have h0 : cmpB y.1 x.1 < 0 := h1 0 (by simp) (by omega)
    rw [putL, if_pos h0, putL_at x t k (by simpa using hk) (fun j h hj => h1 (j + 1) (by simpa using h) (by omega)) (fun h => h2 (by simpa using h))]
    simp
theorem cmpB_lt (a b : ByteArray) : cmpB a b < 0 ↔ a.toList < b.toList := by
  have h : (ltOf cfB) (a, a) (b, b) = Sort.ltStr a.toList b.toList := by rw [ltOf_cfB]
  have h1 : (ltOf cfB) (a, a) (b, b) = decide (cmpB a b < 0) := rfl
  have h2 : Sort.ltStr a.toList b.toList = decide (a.toList < b.toList) := rfl
  rw [h1, h2] at h
  exact decide_eq_decide.1 h
theorem putL_perm (x : BLab) : ∀ L : List BLab, (putL x L).Perm (x :: L)
  | [] => List.Perm.refl _
  | y :: t => by
    rw [putL]
    split
    · exact ((putL_perm x t).cons y).trans (List.Perm.swap x y t)
    · exact List.Perm.refl _
abbrev Weak (L : List BLab) : Prop := L.Pairwise fun x y => ¬ y.1.toList < x.1.toList
theorem putL_weak (x : BLab) : ∀ L : List BLab, Weak L → Weak (putL x L)
  | [], _ => List.pairwise_singleton _ _
  | y :: t, h => by
    obtain ⟨h1, h2⟩ := List.pairwise_cons.1 h
    rw [putL]
    split
    · rename_i hlt
      refine List.pairwise_cons.2 ⟨fun z hz => ?_, putL_weak x t h2⟩
      rcases List.mem_cons.1 ((putL_perm x t).mem_iff.1 hz) with rfl | hz
      · exact List.lt_asymm ((cmpB_lt _ _).1 hlt)
      · exact h1 z hz
    · rename_i hge
      have hge' : ¬ y.1.toList < x.1.toList := fun h => hge ((cmpB_lt _ _).2 h)
      refine List.pairwise_cons.2 ⟨fun z hz => ?_, h⟩
      rcases List.mem_cons.1 hz with rfl | hz
      · exact hge'
      · intro hzx
        have h3 := h1 z hz
        exact h3 (Std.lt_of_lt_of_le hzx (List.not_lt.1 hge'))
def putAll (K : List BLab) : List BLab := K.foldl (fun a x => putL x a) []
theorem putAll_snoc (K : List BLab) (x : BLab) : putAll (K ++ [x]) = putL x (putAll K) := by simp [putAll]
theorem putFold_perm : ∀ (K A : List BLab), (K.foldl (fun a x => putL x a) A).Perm (A ++ K)
  | [], A => by simp
  | x :: K, A => by
    rw [List.foldl_cons]
    refine (putFold_perm K (putL x A)).trans ?_
    refine ((putL_perm x A).append_right K).trans ?_
    show (x :: (A ++ K)).Perm _
    exact List.perm_middle.symm
theorem putAll_perm (K : List BLab) : (putAll K).Perm K := by
  have := putFold_perm K []
  simpa [putAll] using this
theorem putFold_weak : ∀ (K A : List BLab), Weak A → Weak (K.foldl (fun a x => putL x a) A)
  | [], _, h => h
  | x :: K, A, h => putFold_weak K _ (putL_weak x A h)
theorem putAll_sort (K : List BLab) : (rightA (putAll K) = rightA (sortA K)) ∧ (rightA (sortA K) = true → putAll K = sortA K) := by
  have h2 : rightA (sortA K) = true → putAll K = sortA K := fun h => by
    have hR := right_rises _ h
    refine List.Perm.eq_of_pairwise (le := fun x y => ¬ y.1.toList < x.1.toList) ?_ (putFold_weak K [] List.Pairwise.nil) ?_ ((putAll_perm K).trans (sortA_perm K).symm)
    · intro a b ha hb h1 h2
      have ha' : a ∈ sortA K := (sortA_perm K).mem_iff.2 ((putAll_perm K).mem_iff.1 ha)
      have he : a.1.toList = b.1.toList := List.le_antisymm (List.not_lt.1 h1) (List.not_lt.1 h2)
      exact rises_inj _ hR a b ha' hb (bytes_ext he)
    · exact hR.imp fun hlt => List.lt_asymm hlt
  refine ⟨?_, h2⟩
  cases h : rightA (sortA K)
  · cases h3 : rightA (putAll K)
    · rfl
    · have := sort_rises K (putAll K) (putAll_perm K).symm (right_rises _ h3)
      rw [this, h3] at h
      cases h
  · rw [h2 h, h]
/-- What is appended: labels somewhere in memory. -/
def SrcLabs (w : World) (x : Value) (K : List BLab) : Prop :=
  ∃ p c, x = .slice p K.length c ∧ ((p = none ∧ c = 0 ∧ K = []) ∨ ∃ ad : Addr, p = some ad ∧ ∀ (j : Nat) (u : Value), (labCells K)[j]? = some u → w.cell? (ad.add j) = some u)
theorem labCells_at {w : World} {a : Nat} : ∀ {K : List BLab} {off : Nat}, (∀ i (h : i < K.length), w.cell? ⟨a, off + i * 2, none⟩ = some (.string K[i].1) ∧ w.cell? ⟨a, off + i * 2 + 1, none⟩ = some (.string K[i].2)) →
    ∀ (j : Nat) (u : Value), (labCells K)[j]? = some u → w.cell? ⟨a, off + j, none⟩ = some u
  | [], _, _, j, u, hj => by simp [labCells] at hj
  | p :: K, off, h, j, u, hj => by
    have e : labCells (p :: K) = .string p.1 :: .string p.2 :: labCells K := by simp [labCells]
    rw [e] at hj
    rcases j with _ | _ | j
    · have := (h 0 (by simp)).1
      simp at hj this; rw [← hj]; simpa using this
    · have := (h 0 (by simp)).2
      simp at hj this; rw [← hj]; simpa using this
    · have := labCells_at (K := K) (off := off + 2) (fun i hi => by
        have := h (i + 1) (by simpa using hi)
        rw [show off + 2 + i * 2 = off + (i + 1) * 2 by omega]
        simpa using this) j u (by simpa using hj)
      rw [show off + (j + 1 + 1) = off + 2 + j by omega]
      exact this
set_option maxRecDepth 100000 in
theorem run_append_labs {w : World} (base : Nat) (ty : TypeId) {v x : Value} {M K : List BLab} (hown : w.ownsRow base 41 2 v M.length (labCells M)) (hx : SrcLabs w x K) (hl : M.length + K.length ≤ 2000000000000) (hb : base ≤ w.heap.size) :
    ∃ v' w', (Builtin.append_ #[23, 23] ty #[v, x]).run Tryz.prog w = .ok v' w' ∧ w'.ownsRow base 41 2 v' (M ++ K).length (labCells (M ++ K)) ∧ w.grownBy w' v.ownBlock := by
  obtain ⟨p, c, rfl, ⟨rfl, rfl, rfl⟩ | ⟨ad, rfl, hc⟩⟩ := hx
  · refine ⟨v, w, run_append_owned_none (P := Tryz.prog) w base 23 ty 41 _ 2 Tryz.underlying23 rfl v M.length _ hown, by simpa using hown, ?_⟩
    exact ⟨rfl, rfl, rfl, Nat.le_refl _, fun _ _ _ => rfl⟩
  · obtain ⟨i0, hi, hz0, hz1, hz2⟩ := info_parts (show (Tryz.prog.info? 41).map (fun i => (i.zero, i.size, i.bytes)) = some (some (.agg #[.string ⟨#[]⟩, .string ⟨#[]⟩]), 2, 32) by kernel_rfl)
    obtain ⟨v', w', h1, h2, h3, -⟩ := run_append_own (P := Tryz.prog) w base 23 ty 41 i0 (.agg #[.string ⟨#[]⟩, .string ⟨#[]⟩]) 2 32 Tryz.underlying23 hi hz0 hz1 hz2 rfl (by omega) v M.length _ hown ad K.length c (labCells K) (labCells_length K) hc
      (fun u hu => by
        obtain ⟨b, -, hb⟩ := List.mem_flatMap.1 hu
        simp at hb
        rcases hb with rfl | rfl <;> rfl) (by unfold maxLen; omega) (by omega) hb
    refine ⟨v', w', h1, ?_, h3⟩
    have e1 : (M ++ K).length = M.length + K.length := by simp
    have e2 : labCells (M ++ K) = labCells M ++ labCells K := by simp [labCells]
    rw [e1, e2]
    exact h2
theorem wp_append_labs {w : World} {o : Oper} {a : Act} {R : Act → World → Prop} {Q : Exit → Act → World → Prop} (s x : Operand) (ho : o.op = .call { callee := .builtin .append, args := #[s, x], argTypes := #[23, 23] })
    (base : Nat) (v u : Value) (M K : List BLab) (hs : a.eval s = v) (hxv : a.eval x = u) (hown : w.ownsRow base 41 2 v M.length (labCells M)) (hx : SrcLabs w u K) (hl : M.length + K.length ≤ 2000000000000) (hb : base ≤ w.heap.size)
    (h : ∀ v' w', w'.ownsRow base 41 2 v' (M ++ K).length (labCells (M ++ K)) → w.grownBy w' v.ownBlock → R (a.put o.dst v') w') : o.wp Tryz.prog a w R Q := by
  obtain ⟨v', w', hr, h2, h3⟩ := run_append_labs base o.type hown hx hl hb
  unfold Oper.wp execOp
  simp only [ho, resolve, invoke, builtin, Sem.run_bind, Sem.run_pure, Result.andThen_ok, List.map_toArray, List.map_cons, List.map_nil, hs, hxv, hr]
  exact h v' w' h2 h3
theorem wpList_append_labs {w : World} {ops : Array Oper} {rest : List Oper} {o : Oper} {a : Act} {Q : Exit → Act → World → Prop} (hgd : o.guard = none) (s x : Operand) (ho : o.op = .call { callee := .builtin .append, args := #[s, x], argTypes := #[23, 23] })
    (base : Nat) (v u : Value) (M K : List BLab) (hs : a.eval s = v) (hxv : a.eval x = u) (hown : w.ownsRow base 41 2 v M.length (labCells M)) (hx : SrcLabs w u K) (hl : M.length + K.length ≤ 2000000000000) (hb : base ≤ w.heap.size)
    (h : ∀ v' w', w'.ownsRow base 41 2 v' (M ++ K).length (labCells (M ++ K)) → w.grownBy w' v.ownBlock → wpList Tryz.prog ops Q rest (a.put o.dst v') w') : wpList Tryz.prog ops Q (o :: rest) a w :=
  wpList_plain hgd fun R hR => wp_append_labs s x ho base v u M K hs hxv hown hx hl hb fun v' w' h1 h2 => hR _ _ (h v' w' h1 h2)
theorem SrcLabs.of {w : World} {a off c : Nat} {K : List BLab} (h : ∀ i (h : i < K.length), w.cell? ⟨a, off + i * 2, none⟩ = some (.string K[i].1) ∧ w.cell? ⟨a, off + i * 2 + 1, none⟩ = some (.string K[i].2)) : SrcLabs w (.slice (some ⟨a, off, none⟩) K.length c) K :=
  ⟨_, c, rfl, .inr ⟨_, rfl, fun j u hj => by
    have := labCells_at h j u hj
    have e : (⟨a, off, none⟩ : Addr).add j = ⟨a, off + j, none⟩ := by by_cases h0 : j = 0 <;> simp [Addr.add, h0]
    rw [e]; exact this⟩⟩
theorem SrcLabs.none' {w : World} {p : Option Addr} : SrcLabs w (.slice p 0 0) [] := by
  rcases p with _ | ad
  · exact ⟨none, 0, rfl, .inl ⟨rfl, rfl, rfl⟩⟩
  · exact ⟨some ad, 0, rfl, .inr ⟨ad, rfl, fun j u hj => by simp [labCells] at hj⟩⟩
theorem SrcLabs.take {B : Nat} {w W : World} {p : Option Addr} {n cap : Nat} {L : List BLab} (h : LabelsAt B w (.slice p n cap) L) (hb : Below B w W) (k : Nat) (hk : k ≤ L.length) : SrcLabs W (.slice p k cap) (L.take k) := by
  have hlt : (L.take k).length = k := by simp; omega
  obtain ⟨-, -, ⟨a, h1, rfl⟩ | ⟨a, off, c, h1, h2, h3, h4⟩⟩ := h
  · have h5 : p = a ∧ n = 0 ∧ cap = 0 := by simpa using h1
    obtain ⟨rfl, rfl, rfl⟩ := h5
    obtain rfl : k = 0 := by simpa using hk
    exact SrcLabs.none'
  · have h5 : p = some ⟨a, off, none⟩ ∧ n = L.length ∧ cap = c := by simpa using h1
    obtain ⟨rfl, rfl, rfl⟩ := h5
    have := SrcLabs.of (w := W) (a := a) (off := off) (c := cap) (K := L.take k) fun i hi => by
      rw [List.getElem_take, hb.cell (by show a < B; omega), hb.cell (by show a < B; omega)]
      exact h4 i (by omega)
    rwa [hlt] at this
/-- l[k:], as the model has it. -/
theorem SrcLabs.drop1 {w : World} {p : Option Addr} {L : List BLab} {k cap : Nat} (hc : cap = k) (hk : k ≤ L.length) (hl : L.length ≤ cap) : SrcLabs w (.slice p (L.length - k) 0) (L.drop k) := by
  have h0 : L.drop k = [] := List.drop_eq_nil_of_le (by omega)
  rw [h0, show L.length - k = 0 by omega]
  exact SrcLabs.none'
theorem SrcLabs.drop2 {B : Nat} {w W : World} {p : Option Addr} {n cap : Nat} {L : List BLab} (h : LabelsAt B w (.slice p n cap) L) (hb : Below B w W) (k : Nat) (hc : cap ≠ k) (hk : k ≤ L.length) : SrcLabs W (.slice (Option.map (fun x => x.add (k * 2)) p) (L.length - k) (cap - k)) (L.drop k) := by
  have hlt : (L.drop k).length = L.length - k := by simp
  obtain ⟨-, -, ⟨a, h1, rfl⟩ | ⟨a, off, c, h1, h2, h3, h4⟩⟩ := h
  · have h5 : p = a ∧ n = 0 ∧ cap = 0 := by simpa using h1
    obtain ⟨rfl, rfl, rfl⟩ := h5
    simp at hk
    omega
  · have h5 : p = some ⟨a, off, none⟩ ∧ n = L.length ∧ cap = c := by simpa using h1
    obtain ⟨rfl, rfl, rfl⟩ := h5
    have := SrcLabs.of (w := W) (a := a) (off := off + k * 2) (c := cap - k) (K := L.drop k) fun i hi => by
      rw [List.getElem_drop, hb.cell (by show a < B; omega), hb.cell (by show a < B; omega)]
      have := h4 (k + i) (by omega)
      rw [Nat.add_mul, ← Nat.add_assoc] at this
      exact this
    rw [hlt] at this
    have e : Option.map (fun x : Addr => x.add (k * 2)) (some ⟨a, off, none⟩) = some ⟨a, off + k * 2, none⟩ := by
      by_cases h0 : k = 0
      · subst h0; simp [Addr.add]
      · have h1 : k * 2 ≠ 0 := by omega
        simp [Addr.add, h1]
    rw [e]
    exact this
set_option maxRecDepth 100000 in
set_option maxHeartbeats 4000000 in
theorem rput_any (v : Value) (L : List BLab) (x1 x2 : ByteArray) (w : World) (hL : LabelsAt w.heap.size w v L) (hx : x1.size ≤ 1000000 ∧ x2.size ≤ 1000000) (hlen : L.length ≤ 100000) :
    Calls Tryz.prog 32 #[v, .agg #[.string x1, .string x2]] w fun e w' => Below w.heap.size w w' ∧ ∃ v', e = .returned v' ∧ LabelsAt w'.heap.size w' v' (putL (x1, x2) L) := by
  have mixed : Tryz.prog.follows .mixedOrders = true := by kernel_rfl
  obtain ⟨n1, p, cap, rfl, hp⟩ := hL.form
  have hcap : L.length ≤ cap := by
    obtain ⟨-, -, ⟨q, h1, rfl⟩ | ⟨q, off, c, h1, h2, h3, h4⟩⟩ := id hL
    · simp
    · have h5 : cap = c := by simp at h1; exact h1.2
      omega
  have hsz : ∀ y ∈ putL (x1, x2) L, y.1.size ≤ 1000000 ∧ y.2.size ≤ 1000000 := fun y hy => by
    rcases List.mem_cons.1 ((putL_perm (x1, x2) L).mem_iff.1 hy) with rfl | hy
    · exact hx
    · exact hL.1 y hy
  have hpl := (putL_perm (x1, x2) L).length_eq
  rw [List.length_cons] at hpl
  have HSZ := Lib.hid hsz
  have HPL := Lib.hid hpl
  have HL := Lib.hid hL
  clear hsz hpl
  go_enter Tryz.func32, Tryz.ntmps32
  go_wp2
  go_loopw [5] (fun i wr => ∃ k : Nat, k ≤ L.length ∧ i = .int .i64 k ∧ (∀ (j : Nat) (h : j < L.length), j < k → cmpB L[j].1 x1 < 0) ∧ Below w.heap.size w wr ∧ RowAt wr w.heap.size 41 [.string x1, .string x2])
    (fun i _ => L.length - (intOf i).toNat)
  case atStart => exact ⟨0, by omega, rfl, fun j _ h => by omega, (Below.refl _ w).alloc (Nat.le_refl _) _, RowAt.of_new _ _ _⟩
  case round =>
    obtain ⟨k, hk, rfl, hlt, hB, hR⟩ := hrel
    have hBs := hB.size
    have hRR := Lib.hid hR
    obtain ⟨a0, a1, b0, b1, al⟩ := hR.two
    by_cases hgo : ∃ h : k < L.length, cmpB L[k].1 x1 < 0
    · obtain ⟨hlk, hka⟩ := hgo
      obtain ⟨b, off, rfl, hb, hcp, hcc⟩ := hp (by rintro rfl; simp at hlk)
      obtain ⟨hc0, hc1⟩ := hcc k hlk
      rw [← hB.cell (p := ⟨b, off + k * 2, none⟩) hb] at hc0
      have hbl : b < wr.heap.size := by omega
      have hki : (k : Int) < L.length := by omega
      have hsL := hL.1 L[k] (List.getElem_mem _)
      have hl := fun W => least_any L[k].1 x1 W (by omega) (by omega)
      have HLT := Lib.hid (show ∀ (j : Nat) (h : j < L.length), j < k + 1 → cmpB L[j].1 x1 < 0 from fun j hj h => by
        rcases Nat.lt_or_ge j k with h1 | h1
        · exact hlt j hj h1
        · obtain rfl : j = k := by omega
          exact hka)
      clear hlt hcc hp hL hR hc1
      generalize L[k].1 = y at *
      generalize cmpB y x1 = c at *
      have hdc : decide (c < 0) = true := decide_eq_true hka
      go_wp2
      refine wp_region_gr (by kernel_rfl) (by kernel_rfl) ?_
      repeat (go_big_quiet_step (first | (go_at_call 45; exact Calls.gr (hl _))))
      refine wpQuiet_nil ?_
      intro g
      have hgl := g.le
      go_wp2
      go_roundw
      case rel => exact ⟨k + 1, by omega, by go_num, HLT.out, hB.trans (g.below.mono hBs), hRR.out.gr g⟩
      case measure => simp [intOf]; omega
    · have HP := Lib.hid (putL_at (x1, x2) L k hk hlt (fun h h2 => hgo ⟨h, h2⟩))
      have hkk : (k : Int) ≤ L.length := by omega
      have hcI : (L.length : Int) ≤ cap := by omega
      by_cases hlk : k < L.length
      focus
        have hka : ¬ cmpB L[k].1 x1 < 0 := fun h => hgo ⟨hlk, h⟩
        obtain ⟨b, off, rfl, hb, hcp, hcc⟩ := hp (by rintro rfl; simp at hlk)
        obtain ⟨hc0, hc1⟩ := hcc k hlk
        rw [← hB.cell (p := ⟨b, off + k * 2, none⟩) hb] at hc0
        have hbl : b < wr.heap.size := by omega
        have hki : (k : Int) < L.length := by omega
        have hsL := hL.1 L[k] (List.getElem_mem _)
        have hl := fun W => least_any L[k].1 x1 W (by omega) (by omega)
        clear hlt hcc hp hL hR hgo hc1
        generalize L[k].1 = y at *
        generalize cmpB y x1 = c at *
        have hdc : decide (c < 0) = false := decide_eq_false hka
        go_wp2
        refine wp_region_gr (by kernel_rfl) (by kernel_rfl) ?_
        repeat (go_big_quiet_step (first | (go_at_call 45; exact Calls.gr (hl _))))
        refine wpQuiet_nil ?_
        intro g
        have hgl := g.le
        have hW : Below w.heap.size w g.world := hB.trans (g.below.mono hBs)
        have hR := hRR.out.gr g
        clear hl hdc hka hc0 hcp hsL
      rotate_left
      focus
        have hki : ¬ (k : Int) < L.length := by omega
        have hdc : decide ((k : Int) < L.length) = false := decide_eq_false hki
        clear hlt hp hL hR hgo
        go_wp2
        refine wp_region_gr (by kernel_rfl) (by kernel_rfl) ?_
        repeat (go_big_quiet_step (first | fail))
        refine wpQuiet_nil ?_
        intro g
        have hgl := g.le
        have hW : Below w.heap.size w g.world := hB.trans (g.below.mono hBs)
        have hR := hRR.out.gr g
        clear hdc
      all_goals
        clear hB hRR a0 a1 b0 b1 al hBs
        generalize hGW : g.world = W at *
        clear hGW hgl g
        obtain ⟨a0, a1, b0, b1, al⟩ := hR.two
        have hWs := hW.size
        go_wp2
        refine wp_region_gr_free 4 5 [7, 8] (by kernel_rfl) (by kernel_rfl) ?_
        simp only [List.take_succ_cons, List.take_zero]
        repeat (go_big_quiet_step (first | fail))
        refine wpQuiet_nil ?_
        intro g
        have hgl := g.le
        refine wpAnyC_readL 5 (⟨g, rfl⟩) (by kernel_rfl) ?_
        simp only [List.drop_succ_cons, List.drop_zero, List.take_succ_cons, List.take_zero]
        go_big_quiet_step (first | fail)
        refine wpQuiet_nil ?_
        refine wpAnyC_two 4 6 rfl rfl rfl rfl (by kernel_rfl) (fun K hK => ?_) (fun K hK => ?_)
        · refine wp_append_labs (.tmp 24) (.tmp 27) rfl W.heap.size _ _ [] (L.take k) rfl rfl (World.ownsRow_nil _ _ _ _) (SrcLabs.take HL.out (hW.trans (g.below.mono hWs)) k hk) (by simp; omega) hgl ?_
          intro v1 Y1 hown1 (hgr1 : g.world.grownBy Y1 none)
          have hB1 : Below W.heap.size W Y1 := g.below.grown hgr1 hgl (fun b e => by cases e)
          refine hK _ _ (.inr (Gr.of hB1)) ?_
          simp only [List.nil_append] at hown1
          refine wpAnyC_one 6 rfl rfl (by kernel_rfl) (fun K hK => ?_)
          go_wp2
          have hB2 : Below W.heap.size W (Y1.alloc (.cells #[.string x1, .string x2] 41)) := hB1.alloc hB1.size _
          refine hK _ _ (.inr (Gr.of hB2)) ?_
          have rX := RowAt.new_at Y1 #[.string x1, .string x2] 41 Y1.heap.size rfl
          refine wpAnyC_one 7 rfl rfl (by kernel_rfl) (fun K hK => ?_)
          refine wp_append_labs (.tmp 28) (.tmp 30) rfl W.heap.size v1 _ (L.take k) [(x1, x2)] rfl rfl (World.ownsRow.alloc hown1 _) (SrcLabs.of (K := [(x1, x2)]) (fun i hi => by
              obtain rfl : i = 0 := by simpa using hi
              exact ⟨rX.cell 0 (by simp), rX.cell 1 (by simp)⟩)) (by simp; omega) hB2.size ?_
          intro v2 Y2 hown2 hgr2
          refine hK _ _ (.inl rfl) ?_
          have hB3 : Below W.heap.size W Y2 := hB2.grown hgr2 hB2.size (fun b e => (hown1.lt b e).1)
          refine wpAnyC_one 8 rfl rfl (by kernel_rfl) (fun K hK => ?_)
          go_wp2
          refine hK _ _ (.inl rfl) ?_
          refine wpAnyC_end (by kernel_rfl) ?_
          by_cases hck : cap = k
          · obtain rfl : k = cap := hck.symm
            go_wp2_with (at_builtin; refine wpList_append_labs rfl _ _ rfl W.heap.size v2 _ (L.take k ++ [(x1, x2)]) (L.drop k) rfl rfl hown2 (by rw [List.drop_eq_nil_of_le (show L.length ≤ k from hcap)]; first | exact SrcLabs.none' | simpa [go_sem] using (SrcLabs.none' (w := Y2))) (by simp; omega) hB3.size ?_; intro v3 Y3 hown3 hgr3; have hB4 : Below W.heap.size W Y3 := hB3.grown hgr3 hB3.size (fun b e => (hown2.lt b e).1))
            go_ret
            refine ⟨hW.trans (hB4.mono hWs), _, rfl, ?_⟩
            rw [HP.out]
            exact labels_of_own Y3 _ _ v3 _ _ hown3 rfl (Nat.le_refl _) (by rw [← HP.out]; exact HSZ.out) (by rw [← HP.out, HPL.out]; omega)
          · go_wp2_with (at_builtin; refine wpList_append_labs rfl _ _ rfl W.heap.size v2 _ (L.take k ++ [(x1, x2)]) (L.drop k) rfl rfl hown2 (by simpa [go_sem] using SrcLabs.drop2 HL.out (hW.trans (hB3.mono hWs)) k hck hk) (by simp; omega) hB3.size ?_; intro v3 Y3 hown3 hgr3; have hB4 : Below W.heap.size W Y3 := hB3.grown hgr3 hB3.size (fun b e => (hown2.lt b e).1))
            go_ret
            refine ⟨hW.trans (hB4.mono hWs), _, rfl, ?_⟩
            rw [HP.out]
            exact labels_of_own Y3 _ _ v3 _ _ hown3 rfl (Nat.le_refl _) (by rw [← HP.out]; exact HSZ.out) (by rw [← HP.out, HPL.out]; omega)
        · go_wp2
          have hB1 : Below W.heap.size W (g.world.alloc (.cells #[.string x1, .string x2] 41)) := g.below.alloc hgl _
          refine hK _ _ (.inr (Gr.of hB1)) ?_
          have rX := RowAt.new_at g.world #[.string x1, .string x2] 41 g.world.heap.size rfl
          refine wpAnyC_one 4 rfl rfl (by kernel_rfl) (fun K hK => ?_)
          refine wp_append_labs (.tmp 24) (.tmp 27) rfl W.heap.size _ _ [] (L.take k) rfl rfl (World.ownsRow_nil _ _ _ _) (SrcLabs.take HL.out (hW.trans (hB1.mono hWs)) k hk) (by simp; omega) hB1.size ?_
          intro v1 Y1 hown1 (hgr1 : (g.world.alloc (.cells #[.string x1, .string x2] 41)).grownBy Y1 none)
          have hB2 : Below W.heap.size W Y1 := hB1.grown hgr1 hB1.size (fun b e => by cases e)
          refine hK _ _ (.inr (Gr.of hB2)) ?_
          simp only [List.nil_append] at hown1
          have rY : RowAt Y1 g.world.heap.size 41 [.string x1, .string x2] := rX.same (hgr1.block _ (by rw [World.size_alloc]; omega) (by simp))
          refine wpAnyC_one 7 rfl rfl (by kernel_rfl) (fun K hK => ?_)
          refine wp_append_labs (.tmp 28) (.tmp 30) rfl W.heap.size v1 _ (L.take k) [(x1, x2)] rfl rfl hown1 (SrcLabs.of (K := [(x1, x2)]) (fun i hi => by
              obtain rfl : i = 0 := by simpa using hi
              exact ⟨rY.cell 0 (by simp), rY.cell 1 (by simp)⟩)) (by simp; omega) hB2.size ?_
          intro v2 Y2 hown2 hgr2
          refine hK _ _ (.inl rfl) ?_
          have hB3 : Below W.heap.size W Y2 := hB2.grown hgr2 hB2.size (fun b e => (hown1.lt b e).1)
          refine wpAnyC_one 8 rfl rfl (by kernel_rfl) (fun K hK => ?_)
          go_wp2
          refine hK _ _ (.inl rfl) ?_
          refine wpAnyC_end (by kernel_rfl) ?_
          by_cases hck : cap = k
          · obtain rfl : k = cap := hck.symm
            go_wp2_with (at_builtin; refine wpList_append_labs rfl _ _ rfl W.heap.size v2 _ (L.take k ++ [(x1, x2)]) (L.drop k) rfl rfl hown2 (by rw [List.drop_eq_nil_of_le (show L.length ≤ k from hcap)]; first | exact SrcLabs.none' | simpa [go_sem] using (SrcLabs.none' (w := Y2))) (by simp; omega) hB3.size ?_; intro v3 Y3 hown3 hgr3; have hB4 : Below W.heap.size W Y3 := hB3.grown hgr3 hB3.size (fun b e => (hown2.lt b e).1))
            go_ret
            refine ⟨hW.trans (hB4.mono hWs), _, rfl, ?_⟩
            rw [HP.out]
            exact labels_of_own Y3 _ _ v3 _ _ hown3 rfl (Nat.le_refl _) (by rw [← HP.out]; exact HSZ.out) (by rw [← HP.out, HPL.out]; omega)
          · go_wp2_with (at_builtin; refine wpList_append_labs rfl _ _ rfl W.heap.size v2 _ (L.take k ++ [(x1, x2)]) (L.drop k) rfl rfl hown2 (by simpa [go_sem] using SrcLabs.drop2 HL.out (hW.trans (hB3.mono hWs)) k hck hk) (by simp; omega) hB3.size ?_; intro v3 Y3 hown3 hgr3; have hB4 : Below W.heap.size W Y3 := hB3.grown hgr3 hB3.size (fun b e => (hown2.lt b e).1))
            go_ret
            refine ⟨hW.trans (hB4.mono hWs), _, rfl, ?_⟩
            rw [HP.out]
            exact labels_of_own Y3 _ _ v3 _ _ hown3 rfl (Nat.le_refl _) (by rw [← HP.out]; exact HSZ.out) (by rw [← HP.out, HPL.out]; omega)
end Go.Proofs.YtjhdgpboofcelaaGreat
