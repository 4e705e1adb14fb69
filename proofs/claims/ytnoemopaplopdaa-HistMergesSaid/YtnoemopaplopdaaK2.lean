/- The references' Bounds. -/
import Derived.Test.YtnoemopaplopdaaK1
namespace Go.Proofs.Ytnoemopaplopdaa
open Go.RowKit Go.Maps

set_option maxRecDepth 100000 in
theorem rbounds_no1 (f at_ : Int) (w : World) (h : fineB f = false) :
    Calls Try.prog 14 #[.int .i64 f, .int .i64 at_] w fun e w' => e = .returned (.tuple #[.int .u64 0, .int .u64 0, .bool false]) ∧ Below w.heap.size w w' := by
  have hd : 0 ≤ f → 3 < f := by simp [fineB] at h; omega
  rcases Classical.em (f < 0) with h1 | h1
  · go_enter Try.func14, Try.ntmps14
    go_wp2
    exact bodyPost_ret (v := .tuple #[.int .u64 0, .int .u64 0, .bool false]) (by simp [results, Try.results14, go_sem]) rfl ⟨rfl, (by repeat (first | exact Below.refl _ _ | assumption | (refine Below.setCell ?_ (by (first | omega | (simp; done) | (simp; omega) | (simp at *; omega))) _) | (refine Below.alloc ?_ (by (first | omega | (simp; done) | (simp; omega) | (simp at *; omega))) _) | (refine Below.drew ?_) | (refine Gr.into _ ?_ (by (first | omega | (simp; done) | (simp; omega) | (simp at *; omega))))))⟩
  · have h2 : 3 < f := hd (by omega)
    go_enter Try.func14, Try.ntmps14
    go_wp2
    exact bodyPost_ret (v := .tuple #[.int .u64 0, .int .u64 0, .bool false]) (by simp [results, Try.results14, go_sem]) rfl ⟨rfl, (by repeat (first | exact Below.refl _ _ | assumption | (refine Below.setCell ?_ (by (first | omega | (simp; done) | (simp; omega) | (simp at *; omega))) _) | (refine Below.alloc ?_ (by (first | omega | (simp; done) | (simp; omega) | (simp at *; omega))) _) | (refine Below.drew ?_) | (refine Gr.into _ ?_ (by (first | omega | (simp; done) | (simp; omega) | (simp at *; omega))))))⟩
set_option maxRecDepth 100000 in
theorem rbounds_no2 (f : Nat) (at_ : Int) (w : World) (h : f ≤ 3) (ha : at_ < 0 ∨ 64 * 2 ^ f < at_) :
    Calls Try.prog 14 #[.int .i64 f, .int .i64 at_] w fun e w' => e = .returned (.tuple #[.int .u64 0, .int .u64 0, .bool false]) ∧ Below w.heap.size w w' := by
  have hfi : (f : Int) ≤ 3 := by omega
  obtain ⟨h64, hp, -⟩ := sixty h
  rcases Classical.em (at_ < 0) with h1 | h1
  · go_enter Try.func14, Try.ntmps14
    go_wp2
    exact bodyPost_ret (v := .tuple #[.int .u64 0, .int .u64 0, .bool false]) (by simp [results, Try.results14, go_sem]) rfl ⟨rfl, (by repeat (first | exact Below.refl _ _ | assumption | (refine Below.setCell ?_ (by (first | omega | (simp; done) | (simp; omega) | (simp at *; omega))) _) | (refine Below.alloc ?_ (by (first | omega | (simp; done) | (simp; omega) | (simp at *; omega))) _) | (refine Below.drew ?_) | (refine Gr.into _ ?_ (by (first | omega | (simp; done) | (simp; omega) | (simp at *; omega))))))⟩
  · have h2 : 64 * 2 ^ f < at_ := ha.resolve_left h1
    go_enter Try.func14, Try.ntmps14
    go_wp2
    exact bodyPost_ret (v := .tuple #[.int .u64 0, .int .u64 0, .bool false]) (by simp [results, Try.results14, go_sem]) rfl ⟨rfl, (by repeat (first | exact Below.refl _ _ | assumption | (refine Below.setCell ?_ (by (first | omega | (simp; done) | (simp; omega) | (simp at *; omega))) _) | (refine Below.alloc ?_ (by (first | omega | (simp; done) | (simp; omega) | (simp at *; omega))) _) | (refine Below.drew ?_) | (refine Gr.into _ ?_ (by (first | omega | (simp; done) | (simp; omega) | (simp at *; omega))))))⟩
set_option maxRecDepth 100000 in
theorem rbounds_zero (f : Nat) (w : World) (h : f ≤ 3) :
    Calls Try.prog 14 #[.int .i64 f, .int .i64 0] w fun e w' => e = .returned (.tuple #[.int .u64 0, .int .u64 0, .bool true]) ∧ Below w.heap.size w w' := by
  have hfi : (f : Int) ≤ 3 := by omega
  obtain ⟨h64, hp, -⟩ := sixty h
  have h3 : ¬ ((64 : Int) * 2 ^ f < 0) := by omega
  go_enter Try.func14, Try.ntmps14
  go_wp2
  exact bodyPost_ret (v := .tuple #[.int .u64 0, .int .u64 0, .bool true]) (by simp [results, Try.results14, go_sem]) rfl ⟨rfl, (by repeat (first | exact Below.refl _ _ | assumption | (refine Below.setCell ?_ (by (first | omega | (simp; done) | (simp; omega) | (simp at *; omega))) _) | (refine Below.alloc ?_ (by (first | omega | (simp; done) | (simp; omega) | (simp at *; omega))) _) | (refine Below.drew ?_) | (refine Gr.into _ ?_ (by (first | omega | (simp; done) | (simp; omega) | (simp at *; omega))))))⟩
theorem first_val {f A m : Nat} (h : f ≤ 3) (hm : 2 ^ f + A % 2 ^ f = m) : IntKind.u64.wrap (wrap64 ((A : Int) % (wrap64 (2 ^ f)) + wrap64 (2 ^ f))) = (m : Nat) := by
  have e2 : wrap64 (2 ^ f) = ((2 ^ f : Nat) : Int) := by rcases four h with rfl | rfl | rfl | rfl <;> decide +kernel
  have e4 : 2 ^ f ≤ 8 := by rcases four h with rfl | rfl | rfl | rfl <;> decide
  have e3 : A % 2 ^ f < 2 ^ f := Nat.mod_lt _ (Nat.two_pow_pos _)
  rw [e2, ← Int.natCast_emod, ← hm, IntKind.wrap_u64]
  generalize A % 2 ^ f = r at *
  generalize 2 ^ f = p at *
  unfold wrap64; omega
set_option maxRecDepth 100000 in
set_option maxHeartbeats 1000000 in
theorem rbounds_high (f A q m : Nat) (w : World) (h : f ≤ 3) (ha : A < 64 * 2 ^ f) (hq : A / 2 ^ f = q) (hm : 2 ^ f + A % 2 ^ f = m) (hqf : f ≤ q) :
    Calls Try.prog 14 #[.int .i64 f, .int .i64 (A + 1 : Nat)] w fun e w' => e = .returned (.tuple #[.int .u64 (m * 2 ^ (q - f) : Nat), .int .u64 (m * 2 ^ (q - f) + (2 ^ (q - f) - 1) : Nat), .bool true]) ∧ Below w.heap.size w w' := by
  have hfi : (f : Int) ≤ 3 := by omega
  obtain ⟨h64, hp, hp2⟩ := sixty h
  have hA : ((A : Int) + 1) ≤ 64 * 2 ^ f := by exact_mod_cast ha
  have hA2 : A < 512 := by omega
  have hqI : (A : Int) / 2 ^ f = (q : Int) := by rw [← hq]; simp
  have hm2 : m < 2 ^ (f + 1) := by
    have : A % 2 ^ f < 2 ^ f := Nat.mod_lt _ (Nat.two_pow_pos _)
    rw [← hm, Nat.pow_succ]; omega
  have hq2 : q < 64 := by rw [← hq, Nat.div_lt_iff_lt_mul (Nat.two_pow_pos _)]; exact ha
  have hL : m * 2 ^ (q - f) < 2 ^ 64 := by
    have h1 : m * 2 ^ (q - f) < 2 ^ (f + 1) * 2 ^ (q - f) := Nat.mul_lt_mul_of_pos_right hm2 (Nat.two_pow_pos _)
    rw [← Nat.pow_add] at h1
    exact Nat.lt_of_lt_of_le h1 (Nat.pow_le_pow_right (by omega) (by omega))
  have ht : q - f ≤ 63 := by omega
  have hby : wrap64 ((q : Int) - f) = ((q - f : Nat) : Int) := by unfold wrap64; omega
  have hge : ¬ ((q : Int) < f) := by omega
  have hw0 : wrap64 (2 ^ f) ≠ 0 := by rcases four h with rfl | rfl | rfl | rfl <;> decide +kernel
  have hfl : (m * 2 ^ (q - f) : Nat) + (2 ^ (q - f) - 1 : Nat) < 2 ^ 64 := by
    have h1 : (m + 1) * 2 ^ (q - f) ≤ 2 ^ (f + 1) * 2 ^ (q - f) := Nat.mul_le_mul_right _ hm2
    rw [← Nat.pow_add] at h1
    have h2 : 2 ^ (f + 1 + (q - f)) ≤ 2 ^ 64 := Nat.pow_le_pow_right (by omega) (by omega)
    rw [Nat.add_mul, Nat.one_mul] at h1
    have := Nat.two_pow_pos (q - f)
    omega
  have hv1 : IntKind.u64.wrap ((m : Int) * 2 ^ (q - f)) = ((m * 2 ^ (q - f) : Nat) : Int) := by
    rw [show (m : Int) * 2 ^ (q - f) = ((m * 2 ^ (q - f) : Nat) : Int) by simp]
    exact wraps_u64 _ (by omega) (by omega)
  have hv2 : IntKind.u64.wrap (((m * 2 ^ (q - f) : Nat) : Int) + IntKind.u64.wrap (IntKind.u64.wrap (2 ^ (q - f)) - 1)) = ((m * 2 ^ (q - f) + (2 ^ (q - f) - 1) : Nat) : Int) := by
    have hpos := Nat.two_pow_pos (q - f)
    have hP63 : 2 ^ (q - f) ≤ 2 ^ 63 := Nat.pow_le_pow_right (by omega) ht
    rw [show (2 : Int) ^ (q - f) = ((2 ^ (q - f) : Nat) : Int) by simp]
    generalize m * 2 ^ (q - f) = L at *
    generalize 2 ^ (q - f) = P at *
    rw [wraps_u64 (P : Int) (by omega) (by omega), wraps_u64 ((P : Int) - 1) (by omega) (by omega), wraps_u64 _ (by omega) (by omega)]
    omega
  have hfv := first_val h hm
  clear hm hq hm2 hq2 ha hp hp2
  have hqf2 : ¬ q < f := by omega
  generalize q - f = t at *
  generalize m * 2 ^ t = L at *
  generalize hV : L + (2 ^ t - 1) = V at *
  go_enter Try.func14, Try.ntmps14
  go_wp2
  refine wp_region_gr (by kernel_rfl) (by kernel_rfl) ?_
  repeat (go_big_quiet_step (first | fail))
  refine wpQuiet_nil ?_
  intro g
  go_wp2
  refine wp_region_gr' (by kernel_rfl) (by kernel_rfl) ?_
  repeat (go_big_quiet_step (first | fail))
  refine wpQuiet_nil ?_
  intro g
  go_wp2
  exact bodyPost_ret (v := .tuple #[.int .u64 L, .int .u64 V, .bool true]) (by simp [results, Try.results14, go_sem]) rfl ⟨rfl, (by repeat (first | exact Below.refl _ _ | assumption | (refine Below.setCell ?_ (by (first | omega | (simp; done) | (simp; omega) | (simp at *; omega))) _) | (refine Below.alloc ?_ (by (first | omega | (simp; done) | (simp; omega) | (simp at *; omega))) _) | (refine Below.drew ?_) | (refine Gr.into _ ?_ (by (first | omega | (simp; done) | (simp; omega) | (simp at *; omega))))))⟩
set_option maxRecDepth 100000 in
set_option maxHeartbeats 1000000 in
theorem rbounds_low (f A q m : Nat) (w : World) (h : f ≤ 3) (ha : A < 64 * 2 ^ f) (hq : A / 2 ^ f = q) (hm : 2 ^ f + A % 2 ^ f = m) (hqf : q < f) :
    Calls Try.prog 14 #[.int .i64 f, .int .i64 (A + 1 : Nat)] w fun e w' => e = .returned (if bucketN f (m / 2 ^ (f - q)) = A + 1 then .tuple #[.int .u64 (m / 2 ^ (f - q) : Nat), .int .u64 (m / 2 ^ (f - q) : Nat), .bool true] else .tuple #[.int .u64 0, .int .u64 0, .bool false]) ∧ Below w.heap.size w w' := by
  have hfi : (f : Int) ≤ 3 := by omega
  obtain ⟨h64, hp, hp2⟩ := sixty h
  have hA : ((A : Int) + 1) ≤ 64 * 2 ^ f := by exact_mod_cast ha
  have hA2 : A < 512 := by omega
  have hqI : (A : Int) / 2 ^ f = (q : Int) := by rw [← hq]; simp
  have hm2 : m < 2 ^ (f + 1) := by
    have : A % 2 ^ f < 2 ^ f := Nat.mod_lt _ (Nat.two_pow_pos _)
    rw [← hm, Nat.pow_succ]; omega
  have hmb : m ≤ 16 := by rcases four h with rfl | rfl | rfl | rfl <;> omega
  have hLb : m / 2 ^ (f - q) ≤ 16 := Nat.le_trans (Nat.div_le_self _ _) hmb
  have hby : wrap64 ((f : Int) - q) = ((f - q : Nat) : Int) := by unfold wrap64; omega
  have hw0 : wrap64 (2 ^ f) ≠ 0 := by rcases four h with rfl | rfl | rfl | rfl <;> decide +kernel
  have hv1 : (m : Int) / 2 ^ (f - q) = ((m / 2 ^ (f - q) : Nat) : Int) := by simp
  have hfv := first_val h hm
  have hfB : fineB f = true := by simp [fineB]; omega
  clear hm hq hm2 ha hp hp2
  generalize hs : f - q = s at *
  generalize m / 2 ^ s = L at *
  have hbk : ∀ w : World, Calls Try.prog 18 #[.int .i64 f, .int .u64 L] w fun e w' => e = .returned (.int .i64 (bucketN f L : Nat)) ∧ Below w.heap.size w w' := fun w => by
    have := rbucket_any f L w (by omega)
    rwa [bucketB_fine h] at this
  by_cases hB : bucketN f L = A + 1
  · rw [if_pos hB]
    rw [hB] at hbk
    go_enter Try.func14, Try.ntmps14
    go_wp2
    refine wp_region_gr (by kernel_rfl) (by kernel_rfl) ?_
    repeat (go_big_quiet_step (first | fail))
    refine wpQuiet_nil ?_
    intro g
    go_wp2_with fail
    with_reducible refine Calls.mono (Calls.gr (hbk _)) ?_
    rintro e w' ⟨rfl, g, rfl⟩
    have hgl := g.le
    try simp only [World.size_alloc] at hgl
    try simp only [World.size_setCell] at hgl
    go_wp2_with fail
    exact bodyPost_ret (v := .tuple #[.int .u64 L, .int .u64 L, .bool true]) (by simp [results, Try.results14, go_sem]) rfl ⟨rfl, (by repeat (first | exact Below.refl _ _ | assumption | (refine Below.setCell ?_ (by (first | omega | (simp; done) | (simp; omega) | (simp at *; omega))) _) | (refine Below.alloc ?_ (by (first | omega | (simp; done) | (simp; omega) | (simp at *; omega))) _) | (refine Below.drew ?_) | (refine Gr.into _ ?_ (by (first | omega | (simp; done) | (simp; omega) | (simp at *; omega))))))⟩
  · rw [if_neg hB]
    have hB2 : (((bucketN f L : Nat) : Int) == (A : Int) + 1) = false := by simp; omega
    generalize bucketN f L = K at *
    go_enter Try.func14, Try.ntmps14
    go_wp2
    refine wp_region_gr (by kernel_rfl) (by kernel_rfl) ?_
    repeat (go_big_quiet_step (first | fail))
    refine wpQuiet_nil ?_
    intro g
    go_wp2_with fail
    with_reducible refine Calls.mono (Calls.gr (hbk _)) ?_
    rintro e w' ⟨rfl, g, rfl⟩
    have hgl := g.le
    try simp only [World.size_alloc] at hgl
    try simp only [World.size_setCell] at hgl
    go_wp2_with fail
    exact bodyPost_ret (v := .tuple #[.int .u64 0, .int .u64 0, .bool false]) (by simp [results, Try.results14, go_sem]) rfl ⟨rfl, (by repeat (first | exact Below.refl _ _ | assumption | (refine Below.setCell ?_ (by (first | omega | (simp; done) | (simp; omega) | (simp at *; omega))) _) | (refine Below.alloc ?_ (by (first | omega | (simp; done) | (simp; omega) | (simp at *; omega))) _) | (refine Below.drew ?_) | (refine Gr.into _ ?_ (by (first | omega | (simp; done) | (simp; omega) | (simp at *; omega))))))⟩
theorem rbounds_any (f at_ : Int) (w : World) :
    Calls Try.prog 14 #[.int .i64 f, .int .i64 at_] w fun e w' => e = bndRes (boundsB f at_) ∧ Below w.heap.size w w' := by
  unfold boundsB
  cases hf : fineB f
  · simpa [bndRes] using rbounds_no1 f at_ w hf
  · obtain ⟨h1, h2⟩ := fine_bd hf
    obtain ⟨n, rfl⟩ := Int.eq_ofNat_of_zero_le (a := f) h1
    have h3 : n ≤ 3 := by omega
    rw [Int.toNat_natCast]
    by_cases ha : at_ < 0 ∨ 64 * 2 ^ n < at_
    · rw [if_neg (by simp; omega)]
      exact rbounds_no2 n at_ w h3 ha
    · rw [if_pos (by simp; omega)]
      obtain ⟨a, rfl⟩ := Int.eq_ofNat_of_zero_le (a := at_) (by omega)
      rw [Int.toNat_natCast]
      rcases a with _ | A
      · exact rbounds_zero n w h3
      · have hA : A < 64 * 2 ^ n := by
          have : ((A + 1 : Nat) : Int) ≤ 64 * 2 ^ n := by omega
          exact_mod_cast this
        unfold boundsN
        rw [if_neg (by omega), Nat.add_sub_cancel]
        by_cases hq : A / 2 ^ n < n
        · rw [if_pos hq]
          refine (rbounds_low n A (A / 2 ^ n) (2 ^ n + A % 2 ^ n) w h3 hA rfl rfl hq).mono fun e w' ⟨he, hb⟩ => ⟨?_, hb⟩
          rw [he]
          split <;> rfl
        · rw [if_neg hq]
          exact rbounds_high n A (A / 2 ^ n) (2 ^ n + A % 2 ^ n) w h3 hA rfl rfl (by omega)
end Go.Proofs.Ytnoemopaplopdaa
