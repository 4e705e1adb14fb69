/- Plain laws on buckets, and the walks of Bucket and Bounds. -/
import Derived.Test.YtnoemopaplopdaaH1
import Derived.Test.YtnoemopaplopdaaScope
namespace Go.Proofs.Ytnoemopaplopdaa
open Go.RowKit

def top (v : Nat) : Nat := Lib.bitLen v - 1
theorem top_bd {v : Nat} (h0 : v ≠ 0) (hv : v < 2 ^ 64) : Lib.bitLen v = top v + 1 ∧ 2 ^ top v ≤ v ∧ v < 2 ^ (top v + 1) ∧ top v ≤ 63 := by
  have h1 := bl_pos h0 hv
  have e : Lib.bitLen v = top v + 1 := by unfold top; omega
  have h2 := (bl_le hv).1 (Nat.le_refl (Lib.bitLen v))
  rw [e] at h2
  have h3 := (bl_le hv).2 hv
  refine ⟨e, ?_, h2, by omega⟩
  rcases Nat.lt_or_ge v (2 ^ top v) with h | h
  · have := (bl_le hv).2 h; omega
  · exact h
/-- The first digit, and the 'f' ones behind it. -/
def lead (f v : Nat) : Nat := v * 2 ^ f / 2 ^ top v
def bucketN (f v : Nat) : Nat := if v = 0 then 0 else 1 + top v * 2 ^ f + lead f v % 2 ^ f
theorem lead_bd {f v : Nat} (h0 : v ≠ 0) (hv : v < 2 ^ 64) : 2 ^ f ≤ lead f v ∧ lead f v < 2 ^ (f + 1) := by
  obtain ⟨-, h1, h2, -⟩ := top_bd h0 hv
  unfold lead
  constructor
  · rw [Nat.le_div_iff_mul_le (Nat.two_pow_pos _), Nat.mul_comm]
    exact Nat.mul_le_mul_right _ h1
  · rw [Nat.div_lt_iff_lt_mul (Nat.two_pow_pos _), Nat.pow_succ', Nat.mul_right_comm, ← Nat.pow_succ', ]
    exact Nat.mul_lt_mul_of_pos_right h2 (Nat.two_pow_pos f)
theorem lead_shift {f v : Nat} (h0 : v ≠ 0) (hv : v < 2 ^ 64) (hf : f ≤ 3) : shiftZ v ((f : Int) - top v) = (lead f v : Nat) := by
  obtain ⟨-, h1, h2, -⟩ := top_bd h0 hv
  have hl := lead_bd (f := f) h0 hv
  unfold shiftZ
  generalize hk : top v = k at *
  by_cases h : f < k
  · rw [if_pos (by omega), show (-((f : Int) - (k : Nat))).toNat = k - f by omega]
    have e : lead f v = v / 2 ^ (k - f) := by
      unfold lead
      rw [hk, show (2 : Nat) ^ k = 2 ^ (k - f) * 2 ^ f by rw [← Nat.pow_add]; congr 1; omega, Nat.mul_div_mul_right _ _ (Nat.two_pow_pos f)]
    rw [e]
    simp
  · rw [if_neg (by omega), show ((f : Int) - (k : Nat)).toNat = f - k by omega]
    have e : lead f v = v * 2 ^ (f - k) := by
      unfold lead
      rw [hk, show (2 : Nat) ^ f = 2 ^ (f - k) * 2 ^ k by rw [← Nat.pow_add]; congr 1; omega, ← Nat.mul_assoc, Nat.mul_div_cancel _ (Nat.two_pow_pos k)]
    have e2 : (v : Int) * 2 ^ (f - k) = ((lead f v : Nat) : Int) := by rw [e]; simp
    have h3 : 2 ^ (f + 1) ≤ 16 := by rcases four hf with rfl | rfl | rfl | rfl <;> decide
    rw [e2, IntKind.wrap_u64]
    omega
theorem bucketN_bd {f v : Nat} (hv : v < 2 ^ 64) (hf : f ≤ 3) : bucketN f v ≤ 64 * 2 ^ f := by
  unfold bucketN
  by_cases h0 : v = 0
  · rw [if_pos h0]; omega
  · rw [if_neg h0]
    obtain ⟨-, -, -, h3⟩ := top_bd h0 hv
    have h4 : lead f v % 2 ^ f < 2 ^ f := Nat.mod_lt _ (Nat.two_pow_pos _)
    rcases four hf with rfl | rfl | rfl | rfl <;> omega
def bucketB (f : Int) (v : Nat) : Nat := if fineB f then bucketN f.toNat v else 0
theorem bucket_any (f : Int) (v : Nat) (w : World) (hv : v < 2 ^ 64) :
    Calls Try.prog 17 #[.int .i64 f, .int .u64 v] w fun e w' => e = .returned (.int .i64 (bucketB f v)) ∧ Below w.heap.size w w' := by
  unfold bucketB
  cases h : fineB f
  · exact bucket_no f v w h
  · obtain ⟨h1, h2⟩ := fine_bd h
    obtain ⟨n, rfl⟩ := Int.eq_ofNat_of_zero_le (a := f) (by omega)
    simp only [if_true, Int.toNat_natCast]
    by_cases h0 : v = 0
    · subst h0
      exact bucket_zero n w h
    · have h3 : n ≤ 3 := by omega
      obtain ⟨h4, -, -, -⟩ := top_bd h0 hv
      have h5 := lead_bd (f := n) h0 hv
      have h6 : 2 ^ (n + 1) ≤ 16 := by rcases four h3 with rfl | rfl | rfl | rfl <;> decide
      have := bucket_pos n v (top v) (lead n v) w h3 hv h0 h4 (lead_shift h0 hv h3) (by omega)
      unfold bucketN
      rwa [if_neg h0]

/-- The bounds of a bucket, if it has any. -/
def boundsN (f at_ : Nat) : Option (Nat × Nat) :=
  if at_ = 0 then some (0, 0)
  else if (at_ - 1) / 2 ^ f < f then
    (if bucketN f ((2 ^ f + (at_ - 1) % 2 ^ f) / 2 ^ (f - (at_ - 1) / 2 ^ f)) = at_ then some ((2 ^ f + (at_ - 1) % 2 ^ f) / 2 ^ (f - (at_ - 1) / 2 ^ f), (2 ^ f + (at_ - 1) % 2 ^ f) / 2 ^ (f - (at_ - 1) / 2 ^ f)) else none)
  else some ((2 ^ f + (at_ - 1) % 2 ^ f) * 2 ^ ((at_ - 1) / 2 ^ f - f), (2 ^ f + (at_ - 1) % 2 ^ f) * 2 ^ ((at_ - 1) / 2 ^ f - f) + (2 ^ ((at_ - 1) / 2 ^ f - f) - 1))
def bndRes : Option (Nat × Nat) → Ending
  | none => .returned (.tuple #[.int .u64 0, .int .u64 0, .bool false])
  | some (a, b) => .returned (.tuple #[.int .u64 a, .int .u64 b, .bool true])
def boundsB (f at_ : Int) : Option (Nat × Nat) := if fineB f && decide (0 ≤ at_) && decide (at_ ≤ 64 * 2 ^ f.toNat) then boundsN f.toNat at_.toNat else none

theorem bounds_no1 (f at_ : Int) (w : World) (h : fineB f = false) :
    Calls Try.prog 13 #[.int .i64 f, .int .i64 at_] w fun e w' => e = .returned (.tuple #[.int .u64 0, .int .u64 0, .bool false]) ∧ Below w.heap.size w w' := by
  go_enter Try.func13, Try.ntmps13
  go_wp2
  refine wp_scope_forward 0 rfl ?_
  go_wp2_with (first | (go_at_call 35; (first | (with_reducible refine Calls.mono (Calls.gr (below_self (isFine_any _ _))) ?_) | (refine Calls.mono (Calls.gr0 (below_self (isFine_any _ _))) ?_)); rintro e w' ⟨rfl, g, rfl⟩; have hgl := g.le; (try simp only [World.size_alloc] at hgl); (try simp only [World.size_setCell] at hgl)))
  go_step3
  refine ⟨rfl, ?_⟩
  go_wp2
  rw [Exit.noGoto_ret]
  go_ret3
  exact ⟨rfl, (by repeat (first | exact Below.refl _ _ | assumption | (refine Below.setCell ?_ (by (first | omega | (simp; done) | (simp; omega) | (simp at *; omega))) _) | (refine Below.alloc ?_ (by (first | omega | (simp; done) | (simp; omega) | (simp at *; omega))) _) | (refine Below.drew ?_) | (refine Gr.into _ ?_ (by (first | omega | (simp; done) | (simp; omega) | (simp at *; omega))))))⟩
theorem sixty {f : Nat} (h : f ≤ 3) : wrap64 (64 * 2 ^ f) = 64 * 2 ^ f ∧ (0 : Int) < 64 * 2 ^ f ∧ (64 : Int) * 2 ^ f ≤ 512 := by
  rcases four h with rfl | rfl | rfl | rfl <;> decide +kernel
theorem bounds_no2 (f : Nat) (at_ : Int) (w : World) (h : f ≤ 3) (ha : at_ < 0 ∨ 64 * 2 ^ f < at_) :
    Calls Try.prog 13 #[.int .i64 f, .int .i64 at_] w fun e w' => e = .returned (.tuple #[.int .u64 0, .int .u64 0, .bool false]) ∧ Below w.heap.size w w' := by
  have hf : fineB f = true := by simp [fineB]; omega
  obtain ⟨h64, hp, -⟩ := sixty h
  rcases Classical.em (at_ < 0) with h1 | h1
  all_goals
    have h3 : decide ((64 : Int) * 2 ^ f < at_) = !decide (at_ < 0) := by rw [Bool.eq_iff_iff]; simp; omega
    go_enter Try.func13, Try.ntmps13
    go_wp2
    refine wp_scope_forward 0 rfl ?_
    go_wp2_with (first | (go_at_call 35; (first | (with_reducible refine Calls.mono (Calls.gr (below_self (isFine_any _ _))) ?_) | (refine Calls.mono (Calls.gr0 (below_self (isFine_any _ _))) ?_)); rintro e w' ⟨rfl, g, rfl⟩; have hgl := g.le; (try simp only [World.size_alloc] at hgl); (try simp only [World.size_setCell] at hgl)))
    go_step3
    refine ⟨rfl, ?_⟩
    go_wp2
    rw [Exit.noGoto_ret]
    go_ret3
    exact ⟨rfl, (by repeat (first | exact Below.refl _ _ | assumption | (refine Below.setCell ?_ (by (first | omega | (simp; done) | (simp; omega) | (simp at *; omega))) _) | (refine Below.alloc ?_ (by (first | omega | (simp; done) | (simp; omega) | (simp at *; omega))) _) | (refine Below.drew ?_) | (refine Gr.into _ ?_ (by (first | omega | (simp; done) | (simp; omega) | (simp at *; omega))))))⟩
theorem bounds_zero (f : Nat) (w : World) (h : f ≤ 3) :
    Calls Try.prog 13 #[.int .i64 f, .int .i64 0] w fun e w' => e = .returned (.tuple #[.int .u64 0, .int .u64 0, .bool true]) ∧ Below w.heap.size w w' := by
  have hf : fineB f = true := by simp [fineB]; omega
  obtain ⟨h64, hp, -⟩ := sixty h
  have h3 : decide ((64 : Int) * 2 ^ f < 0) = false := by simp; omega
  go_enter Try.func13, Try.ntmps13
  go_wp2
  refine wp_scope_forward 0 rfl ?_
  go_wp2_with (first | (go_at_call 35; (first | (with_reducible refine Calls.mono (Calls.gr (below_self (isFine_any _ _))) ?_) | (refine Calls.mono (Calls.gr0 (below_self (isFine_any _ _))) ?_)); rintro e w' ⟨rfl, g, rfl⟩; have hgl := g.le; (try simp only [World.size_alloc] at hgl); (try simp only [World.size_setCell] at hgl)))
  simp only [Exit.jump]
  go_ret3
  exact ⟨rfl, (by repeat (first | exact Below.refl _ _ | assumption | (refine Below.setCell ?_ (by (first | omega | (simp; done) | (simp; omega) | (simp at *; omega))) _) | (refine Below.alloc ?_ (by (first | omega | (simp; done) | (simp; omega) | (simp at *; omega))) _) | (refine Below.drew ?_) | (refine Gr.into _ ?_ (by (first | omega | (simp; done) | (simp; omega) | (simp at *; omega))))))⟩
theorem mant {f A : Nat} (h : f ≤ 3) (ha : A < 512) : bits BinOp.or IntKind.u64 (IntKind.u64.wrap (2 ^ f)) (bits BinOp.and IntKind.u64 (A : Int) (IntKind.u64.wrap (IntKind.u64.wrap (2 ^ f) - 1))) = ((2 ^ f + A % 2 ^ f : Nat) : Int) := by
  have e1 : IntKind.u64.wrap (IntKind.u64.wrap (2 ^ f) - 1) = ((2 ^ f : Nat) - 1 : Int) := by
    rcases four h with rfl | rfl | rfl | rfl <;> decide +kernel
  have e2 : IntKind.u64.wrap (2 ^ f) = ((2 ^ f : Nat) : Int) := by
    rcases four h with rfl | rfl | rfl | rfl <;> decide +kernel
  rw [e1, e2, and_mask (by omega) A (by omega)]
  have e3 : A % 2 ^ f < 2 ^ f := Nat.mod_lt _ (Nat.two_pow_pos _)
  have e4 : 2 ^ f ≤ 8 := by rcases four h with rfl | rfl | rfl | rfl <;> decide
  generalize A % 2 ^ f = r at *
  have := bits_join .u64 64 (by decide) wraps_u64 f ((2 ^ f : Nat) : Int) (r : Int) (by omega) (by rcases four h with rfl | rfl | rfl | rfl <;> decide +kernel) (by omega) (by omega) (by exact_mod_cast e3) (by omega)
  rw [this]
  simp
theorem fill_low (m t : Nat) (ht : t ≤ 63) (hL : m * 2 ^ t < 2 ^ 64) : bits BinOp.or IntKind.u64 ((m * 2 ^ t : Nat) : Int) (IntKind.u64.wrap (IntKind.u64.wrap (2 ^ t) - 1)) = ((m * 2 ^ t + (2 ^ t - 1) : Nat) : Int) := by
  have h1 : 2 ^ t ≤ 2 ^ 63 := Nat.pow_le_pow_right (by omega) ht
  have h2 : 0 < 2 ^ t := Nat.two_pow_pos t
  have e2 : IntKind.u64.wrap (2 ^ t) = ((2 ^ t : Nat) : Int) := by
    rw [show (2 : Int) ^ t = ((2 ^ t : Nat) : Int) by simp]
    exact wraps_u64 _ (by omega) (by omega)
  have e3 : IntKind.u64.wrap (((2 ^ t : Nat) : Int) - 1) = ((2 ^ t - 1 : Nat) : Int) := by
    rw [wraps_u64 _ (by omega) (by omega)]; omega
  rw [e2, e3, bits_join .u64 64 (by decide) wraps_u64 t _ _ (by omega) (by
    rw [show (2 : Int) ^ t = ((2 ^ t : Nat) : Int) by simp, ← Int.natCast_emod, Nat.mul_mod_left]; rfl) (by omega) (by omega) (by
    rw [show (2 : Int) ^ t = ((2 ^ t : Nat) : Int) by simp]; omega) (by omega)]
  omega
theorem bounds_high (f A q m : Nat) (w : World) (h : f ≤ 3) (ha : A < 64 * 2 ^ f) (hq : A / 2 ^ f = q) (hm : 2 ^ f + A % 2 ^ f = m) (hqf : f ≤ q) :
    Calls Try.prog 13 #[.int .i64 f, .int .i64 (A + 1 : Nat)] w fun e w' => e = .returned (.tuple #[.int .u64 (m * 2 ^ (q - f) : Nat), .int .u64 (m * 2 ^ (q - f) + (2 ^ (q - f) - 1) : Nat), .bool true]) ∧ Below w.heap.size w w' := by
  have hf : fineB f = true := by simp [fineB]; omega
  obtain ⟨h64, hp, hp2⟩ := sixty h
  have hA : ((A : Int) + 1) ≤ 64 * 2 ^ f := by exact_mod_cast ha
  have hd1 : decide ((A : Int) + 1 < 0) = false := by simp; omega
  have hd2 : decide ((64 : Int) * 2 ^ f < (A : Int) + 1) = false := by simp; omega
  have hqI : (A : Int) / 2 ^ f = (q : Int) := by rw [← hq]; simp
  have hby : wrap64 ((q : Int) - f) = ((q - f : Nat) : Int) := by
    have : q ≤ A := by rw [← hq]; exact Nat.div_le_self _ _
    unfold wrap64; omega
  have hA2 : A < 512 := by omega
  have hmI := mant h (A := A) (by omega)
  rw [hm] at hmI
  have hm2 : m < 2 ^ (f + 1) := by
    have : A % 2 ^ f < 2 ^ f := Nat.mod_lt _ (Nat.two_pow_pos _)
    rw [← hm, Nat.pow_succ]; omega
  have hq2 : q < 64 := by rw [← hq, Nat.div_lt_iff_lt_mul (Nat.two_pow_pos _)]; exact ha
  have hL : m * 2 ^ (q - f) < 2 ^ 64 := by
    have h1 : m * 2 ^ (q - f) < 2 ^ (f + 1) * 2 ^ (q - f) := Nat.mul_lt_mul_of_pos_right hm2 (Nat.two_pow_pos _)
    rw [← Nat.pow_add] at h1
    exact Nat.lt_of_lt_of_le h1 (Nat.pow_le_pow_right (by omega) (by omega))
  have ht : q - f ≤ 63 := by omega
  have hmb : m ≤ 16 := by rcases four h with rfl | rfl | rfl | rfl <;> omega
  clear hp hp2 hm hq hm2 hq2 ha
  generalize q - f = t at *
  have hfl := fill_low m t ht hL
  have hsh : ∀ w : World, Calls Try.prog 36 #[.int .u64 m, .int .i64 t] w fun e w' => e = .returned (.int .u64 (m * 2 ^ t : Nat)) ∧ w = w' := fun w => by
    have := shifted_any m t w (by omega) (by omega)
    have e : shiftZ m t = ((m * 2 ^ t : Nat) : Int) := by
      unfold shiftZ
      rw [if_neg (by omega), Int.toNat_natCast, show (m : Int) * 2 ^ t = ((m * 2 ^ t : Nat) : Int) by simp]
      exact wraps_u64 _ (by omega) (by omega)
    rwa [e] at this
  generalize m * 2 ^ t = L at *
  generalize hV : L + (2 ^ t - 1) = V at *
  go_enter Try.func13, Try.ntmps13
  go_wp2
  refine wp_scope_forward 0 rfl ?_
  go_wp2_with (first | (go_at_call 35; (first | (with_reducible refine Calls.mono (Calls.gr (below_self (isFine_any _ _))) ?_) | (refine Calls.mono (Calls.gr0 (below_self (isFine_any _ _))) ?_)); rintro e w' ⟨rfl, g, rfl⟩; have hgl := g.le; (try simp only [World.size_alloc] at hgl); (try simp only [World.size_setCell] at hgl)))
  refine wp_region_gr' (by kernel_rfl) (by kernel_rfl) ?_
  repeat (go_big_quiet_step (first | (go_at_call 36; exact Calls.gr (below_self (hsh _)))))
  refine wpQuiet_nil ?_
  intro g
  go_wp2
  refine wp_region_gr' (by kernel_rfl) (by kernel_rfl) ?_
  repeat (go_big_quiet_step (first | fail))
  refine wpQuiet_nil ?_
  intro g
  go_wp2
  simp only [Exit.jump]
  go_ret3
  exact ⟨rfl, (by repeat (first | exact Below.refl _ _ | assumption | (refine Below.setCell ?_ (by (first | omega | (simp; done) | (simp; omega) | (simp at *; omega))) _) | (refine Below.alloc ?_ (by (first | omega | (simp; done) | (simp; omega) | (simp at *; omega))) _) | (refine Below.drew ?_) | (refine Gr.into _ ?_ (by (first | omega | (simp; done) | (simp; omega) | (simp at *; omega))))))⟩
theorem bounds_low (f A q m : Nat) (w : World) (h : f ≤ 3) (ha : A < 64 * 2 ^ f) (hq : A / 2 ^ f = q) (hm : 2 ^ f + A % 2 ^ f = m) (hqf : q < f) :
    Calls Try.prog 13 #[.int .i64 f, .int .i64 (A + 1 : Nat)] w fun e w' => e = .returned (if bucketN f (m / 2 ^ (f - q)) = A + 1 then .tuple #[.int .u64 (m / 2 ^ (f - q) : Nat), .int .u64 (m / 2 ^ (f - q) : Nat), .bool true] else .tuple #[.int .u64 0, .int .u64 0, .bool false]) ∧ Below w.heap.size w w' := by
  have hf : fineB f = true := by simp [fineB]; omega
  obtain ⟨h64, hp, hp2⟩ := sixty h
  have hA : ((A : Int) + 1) ≤ 64 * 2 ^ f := by exact_mod_cast ha
  have hd1 : decide ((A : Int) + 1 < 0) = false := by simp; omega
  have hd2 : decide ((64 : Int) * 2 ^ f < (A : Int) + 1) = false := by simp; omega
  have hqI : (A : Int) / 2 ^ f = (q : Int) := by rw [← hq]; simp
  have hby : wrap64 ((q : Int) - f) = (q : Int) - f := by
    have : q ≤ A := by rw [← hq]; exact Nat.div_le_self _ _
    unfold wrap64; omega
  have hA2 : A < 512 := by omega
  have hmI := mant h (A := A) (by omega)
  rw [hm] at hmI
  have hm2 : m < 2 ^ (f + 1) := by
    have : A % 2 ^ f < 2 ^ f := Nat.mod_lt _ (Nat.two_pow_pos _)
    rw [← hm, Nat.pow_succ]; omega
  have hmb : m ≤ 16 := by rcases four h with rfl | rfl | rfl | rfl <;> omega
  have hLb : m / 2 ^ (f - q) ≤ 16 := Nat.le_trans (Nat.div_le_self _ _) hmb
  have hsh : ∀ w : World, Calls Try.prog 36 #[.int .u64 m, .int .i64 ((q : Int) - f)] w fun e w' => e = .returned (.int .u64 (m / 2 ^ (f - q) : Nat)) ∧ w = w' := fun w => by
    have := shifted_any m ((q : Int) - f) w (by omega) (by omega)
    have e : shiftZ m ((q : Int) - f) = ((m / 2 ^ (f - q) : Nat) : Int) := by
      unfold shiftZ
      rw [if_pos (by omega), show (-((q : Int) - f)).toNat = f - q by omega]
      simp
    rwa [e] at this
  clear hp hp2 hm hq hm2 ha
  generalize m / 2 ^ (f - q) = L at *
  have hbk : ∀ w : World, Calls Try.prog 17 #[.int .i64 f, .int .u64 L] w fun e w' => e = .returned (.int .i64 (bucketN f L)) ∧ Below w.heap.size w w' := fun w => by
    have := bucket_any f L w (by omega)
    unfold bucketB at this
    rwa [if_pos hf, Int.toNat_natCast] at this
  by_cases hB : bucketN f L = A + 1
  · rw [if_pos hB]
    rw [hB] at hbk
    go_enter Try.func13, Try.ntmps13
    go_wp2
    refine wp_scope_forward 0 rfl ?_
    go_wp2_with (first | (go_at_call 35; (first | (with_reducible refine Calls.mono (Calls.gr (below_self (isFine_any _ _))) ?_) | (refine Calls.mono (Calls.gr0 (below_self (isFine_any _ _))) ?_)); rintro e w' ⟨rfl, g, rfl⟩; have hgl := g.le; (try simp only [World.size_alloc] at hgl); (try simp only [World.size_setCell] at hgl)))
    refine wp_region_gr' (by kernel_rfl) (by kernel_rfl) ?_
    repeat (go_big_quiet_step (first | (go_at_call 36; exact Calls.gr (below_self (hsh _)))))
    refine wpQuiet_nil ?_
    intro g
    go_wp2_with (first | (go_at_call 17; (first | (with_reducible refine Calls.mono (Calls.gr (hbk _)) ?_) | (refine Calls.mono (Calls.gr0 (hbk _)) ?_)); rintro e w' ⟨rfl, g, rfl⟩; have hgl := g.le; (try simp only [World.size_alloc] at hgl); (try simp only [World.size_setCell] at hgl)))
    simp only [Exit.jump]
    go_ret3
    exact ⟨rfl, (by repeat (first | exact Below.refl _ _ | assumption | (refine Below.setCell ?_ (by (first | omega | (simp; done) | (simp; omega) | (simp at *; omega))) _) | (refine Below.alloc ?_ (by (first | omega | (simp; done) | (simp; omega) | (simp at *; omega))) _) | (refine Below.drew ?_) | (refine Gr.into _ ?_ (by (first | omega | (simp; done) | (simp; omega) | (simp at *; omega))))))⟩
  · rw [if_neg hB]
    have hB2 : (((bucketN f L : Nat) : Int) == (A : Int) + 1) = false := by simp; omega
    generalize bucketN f L = K at *
    go_enter Try.func13, Try.ntmps13
    go_wp2
    refine wp_scope_forward 0 rfl ?_
    go_wp2_with (first | (go_at_call 35; (first | (with_reducible refine Calls.mono (Calls.gr (below_self (isFine_any _ _))) ?_) | (refine Calls.mono (Calls.gr0 (below_self (isFine_any _ _))) ?_)); rintro e w' ⟨rfl, g, rfl⟩; have hgl := g.le; (try simp only [World.size_alloc] at hgl); (try simp only [World.size_setCell] at hgl)))
    refine wp_region_gr' (by kernel_rfl) (by kernel_rfl) ?_
    repeat (go_big_quiet_step (first | (go_at_call 36; exact Calls.gr (below_self (hsh _)))))
    refine wpQuiet_nil ?_
    intro g
    go_wp2_with (first | (go_at_call 17; (first | (with_reducible refine Calls.mono (Calls.gr (hbk _)) ?_) | (refine Calls.mono (Calls.gr0 (hbk _)) ?_)); rintro e w' ⟨rfl, g, rfl⟩; have hgl := g.le; (try simp only [World.size_alloc] at hgl); (try simp only [World.size_setCell] at hgl)))
    go_step3
    go_wp2
    simp only [Exit.jump]
    go_ret3
    exact ⟨rfl, (by repeat (first | exact Below.refl _ _ | assumption | (refine Below.setCell ?_ (by (first | omega | (simp; done) | (simp; omega) | (simp at *; omega))) _) | (refine Below.alloc ?_ (by (first | omega | (simp; done) | (simp; omega) | (simp at *; omega))) _) | (refine Below.drew ?_) | (refine Gr.into _ ?_ (by (first | omega | (simp; done) | (simp; omega) | (simp at *; omega))))))⟩
theorem bndRes_none : bndRes none = .returned (.tuple #[.int .u64 0, .int .u64 0, .bool false]) := rfl
theorem bounds_any (f at_ : Int) (w : World) :
    Calls Try.prog 13 #[.int .i64 f, .int .i64 at_] w fun e w' => e = bndRes (boundsB f at_) ∧ Below w.heap.size w w' := by
  unfold boundsB
  cases hf : fineB f
  · simpa [bndRes] using bounds_no1 f at_ w hf
  · obtain ⟨h1, h2⟩ := fine_bd hf
    obtain ⟨n, rfl⟩ := Int.eq_ofNat_of_zero_le (a := f) h1
    have h3 : n ≤ 3 := by omega
    rw [Int.toNat_natCast]
    by_cases ha : at_ < 0 ∨ 64 * 2 ^ n < at_
    · rw [if_neg (by simp; omega)]
      exact bounds_no2 n at_ w h3 ha
    · rw [if_pos (by simp; omega)]
      obtain ⟨a, rfl⟩ := Int.eq_ofNat_of_zero_le (a := at_) (by omega)
      rw [Int.toNat_natCast]
      rcases a with _ | A
      · exact bounds_zero n w h3
      · have hA : A < 64 * 2 ^ n := by
          have : ((A + 1 : Nat) : Int) ≤ 64 * 2 ^ n := by omega
          exact_mod_cast this
        unfold boundsN
        rw [if_neg (by omega), Nat.add_sub_cancel]
        by_cases hq : A / 2 ^ n < n
        · rw [if_pos hq]
          refine (bounds_low n A (A / 2 ^ n) (2 ^ n + A % 2 ^ n) w h3 hA rfl rfl hq).mono fun e w' ⟨he, hb⟩ => ⟨?_, hb⟩
          rw [he]
          split <;> rfl
        · rw [if_neg hq]
          exact bounds_high n A (A / 2 ^ n) (2 ^ n + A % 2 ^ n) w h3 hA rfl rfl (by omega)
end Go.Proofs.Ytnoemopaplopdaa
