/- Plain: what Count comes to; more registers count no less. -/
import Derived.Test.YtngahohheleeeaaDoorHS
import Derived.Lib.TrimByte
namespace Go.Proofs.YtngahohheleeeaaDoor
open Go.RowKit

def wgt (c : UInt8) : Nat := 2 ^ (32 - min 32 c.toNat)
theorem wgt_pos (c : UInt8) : 1 ≤ wgt c := Nat.two_pow_pos _
theorem wgt_le (c : UInt8) : wgt c ≤ 4294967296 := by
  have : wgt c ≤ 2 ^ 32 := Nat.pow_le_pow_right (by omega) (by omega)
  simpa using this
theorem wgt_anti {a b : UInt8} (h : a.toNat ≤ b.toNat) : wgt b ≤ wgt a := Nat.pow_le_pow_right (by omega) (by omega)
def cntSum (l : List UInt8) : Nat := (l.map wgt).sum
theorem cntSum_snoc (l : List UInt8) (c : UInt8) : cntSum (l ++ [c]) = cntSum l + wgt c := by simp [cntSum]
theorem cntSum_le : ∀ l : List UInt8, cntSum l ≤ l.length * 4294967296
  | [] => by simp [cntSum]
  | c :: l => by
    have h1 := cntSum_le l
    have h2 := wgt_le c
    simp only [cntSum, List.map_cons, List.sum_cons, List.length_cons] at h1 ⊢
    omega
theorem cntSum_ge : ∀ l : List UInt8, l.length ≤ cntSum l
  | [] => by simp
  | c :: l => by
    have h1 := cntSum_ge l
    have h2 := wgt_pos c
    simp only [cntSum, List.map_cons, List.sum_cons, List.length_cons] at h1 ⊢
    omega
theorem cntSum_anti : ∀ {l m : List UInt8}, l.length = m.length → (∀ i, i < l.length → val l i ≤ val m i) → cntSum m ≤ cntSum l
  | [], [], _, _ => by simp
  | a :: l, b :: m, h, hv => by
    have h1 := cntSum_anti (l := l) (m := m) (by simpa using h) (fun i hi => by simpa [val] using hv (i + 1) (by simpa using hi))
    have h2 := wgt_anti (a := a) (b := b) (by simpa [val] using hv 0 (by simp))
    simp only [cntSum, List.map_cons, List.sum_cons] at h1 ⊢
    omega
def zeroB (l : List UInt8) : Bool := l.all fun c => c == 0
theorem zeroB_snoc (l : List UInt8) (c : UInt8) : zeroB (l ++ [c]) = (zeroB l && c == 0) := by simp [zeroB]
theorem zeroB_iff (l : List UInt8) : zeroB l = true ↔ ∀ i, i < l.length → val l i = 0 := by
  unfold zeroB
  rw [List.all_eq_true]
  constructor
  · intro h i hi
    have := h l[i] (List.getElem_mem hi)
    have e : l[i] = 0 := by simpa using this
    simp [val, List.getD, hi, e]
  · intro h x hx
    obtain ⟨i, hi, rfl⟩ := List.mem_iff_getElem.1 hx
    have := h i hi
    simp only [val, List.getD, List.getElem?_eq_getElem hi, Option.getD_some] at this
    have : l[i] = 0 := UInt8.toNat_inj.1 (by simpa using this)
    simpa using this
theorem dw_nil (p : UInt8 → Bool) : ∀ l : List UInt8, l.dropWhile p = [] ↔ ∀ x ∈ l, p x = true
  | [] => by simp
  | c :: l => by
    rw [List.dropWhile_cons]
    by_cases h : p c = true
    · rw [if_pos h, dw_nil p l]
      simp [h]
    · rw [if_neg h]
      constructor
      · intro k; cases k
      · intro k; exact absurd (k c (by simp)) h
theorem dw_head (p : UInt8 → Bool) {y : UInt8} {ys : List UInt8} : ∀ l : List UInt8, l.dropWhile p = y :: ys → p y = false
  | [], h => by cases h
  | c :: l, h => by
    rw [List.dropWhile_cons] at h
    by_cases k : p c = true
    · rw [if_pos k] at h; exact dw_head p l h
    · rw [if_neg k] at h
      obtain ⟨rfl, -⟩ := List.cons.inj h
      simpa using k
theorem trim_zero (l : List UInt8) : Lib.trimB l 0 = [] ↔ zeroB l = true := by
  unfold Lib.trimB Lib.trimLeftB Lib.trimRightB zeroB
  rw [dw_nil, List.all_eq_true]
  constructor
  · intro h x hx
    rcases hd : l.reverse.dropWhile (fun c => c == 0) with _ | ⟨y, ys⟩
    · exact (dw_nil _ _).1 hd x (by simpa using hx)
    · have h1 := dw_head _ _ hd
      have h2 := h y (by rw [hd]; simp)
      rw [h1] at h2
      cases h2
  · intro h x hx
    have : l.reverse.dropWhile (fun c => c == 0) = [] := (dw_nil _ _).2 fun x hx => h x (by simpa using hx)
    rw [this] at hx
    simp at hx
def cntTop (m : Nat) : Nat := 7 * m * m * 4294967296
def countN (l : List UInt8) : Nat := if zeroB l = true then 0 else cntTop l.length / (10 * cntSum l)
def countB (b : Int) (l : List UInt8) : Nat := if rightB b l = true then countN l else 0
theorem countN_mono {l m : List UInt8} (h : l.length = m.length) (hv : ∀ i, i < l.length → val l i ≤ val m i) : countN l ≤ countN m := by
  unfold countN
  by_cases h1 : zeroB l = true
  · rw [if_pos h1]; exact Nat.zero_le _
  · have h2 : ¬ zeroB m = true := by
      intro h2
      rw [zeroB_iff] at h1 h2
      refine h1 fun i hi => ?_
      have := h2 i (by omega)
      have := hv i hi
      omega
    rw [if_neg h1, if_neg h2, h]
    have h3 := cntSum_anti h hv
    have h4 := cntSum_ge m
    have h5 : 0 < m.length := by
      rcases m with _ | ⟨c, m⟩
      · exact absurd rfl h2
      · simp
    exact Nat.div_le_div_left (by omega) (by omega)
theorem countN_pos {l : List UInt8} (h : 8 ≤ l.length) (hz : zeroB l = false) : 0 < countN l := by
  unfold countN
  rw [hz]
  simp only [Bool.false_eq_true, if_false]
  have h1 := cntSum_le l
  have h2 := cntSum_ge l
  refine Nat.div_pos ?_ (by omega)
  unfold cntTop
  have h3 : 7 * l.length * 8 * 4294967296 ≤ 7 * l.length * l.length * 4294967296 := Nat.mul_le_mul_right _ (Nat.mul_le_mul_left _ h)
  omega
theorem countN_noRegs (b : Nat) : countN (noRegs b) = 0 := by
  unfold countN
  rw [if_pos ((zeroB_iff _).2 fun i _ => val_noRegs b i)]
theorem val_addReg_le {b : Nat} {l : List UInt8} (n : Nat) (hb : b ≤ 8) {i : Nat} (hi : i < l.length) : val l i ≤ val (addReg b l n) i :=
  ((val_addReg hb hi).1 (Nat.le_refl _)).1
theorem addReg_not_zero {b : Nat} {l : List UInt8} (n : Nat) (hb : b ≤ 8) (hl : l.length = 2 ^ b) (hn : n < 2 ^ 64) : zeroB (addReg b l n) = false := by
  rw [Bool.eq_false_iff]
  intro h
  rw [zeroB_iff] at h
  have hi : atN b n < l.length := by rw [hl]; exact atN_lt hb hn
  have h0 := h (atN b n) (by rw [addReg_length]; exact hi)
  have := ((val_addReg (n := n) hb hi).1 (Nat.le_of_eq h0)).2 rfl
  have := rankN_bd (n := n) hb
  omega
theorem u64_small {n : Nat} (h : n < 18446744073709551616) : IntKind.u64.wrap (n : Int) = (n : Int) := by
  rw [IntKind.wrap_u64]; omega
theorem wgt_wrap (c : UInt8) (a : Nat) (h : a + wgt c < 18446744073709551616) : IntKind.u64.wrap ((a : Int) + IntKind.u64.wrap (2 ^ (32 - min 32 (c.toNat : Int)).toNat)) = ((a + wgt c : Nat) : Int) := by
  have e : (32 - min 32 (c.toNat : Int)).toNat = 32 - min 32 c.toNat := by omega
  have e2 : (2 : Int) ^ (32 - min 32 c.toNat) = ((wgt c : Nat) : Int) := by unfold wgt; rw [Int.natCast_pow]; rfl
  rw [e, e2, u64_small (by omega), ← Int.natCast_add, u64_small h]
theorem cnt_bd {m : Nat} (h : m ≤ 256) : cntTop m < 18446744073709551616 := by
  have h1 : 7 * m * m ≤ 7 * 256 * 256 := Nat.mul_le_mul (Nat.mul_le_mul_left _ h) h
  unfold cntTop
  omega
theorem quo_eq (m F : Nat) (h : cntTop m < 18446744073709551616) : IntKind.u64.wrap ((IntKind.u64.wrap (7 * (m : Int) * (m : Int) * 4294967296)).tdiv (10 * (F : Int))) = ((cntTop m / (10 * F) : Nat) : Int) := by
  have e : (7 * (m : Int) * (m : Int) * 4294967296) = ((cntTop m : Nat) : Int) := by unfold cntTop; simp
  have e2 : (10 * (F : Int)) = ((10 * F : Nat) : Int) := by simp
  rw [e, e2, u64_small h, ← Int.ofNat_tdiv]
  exact u64_small (Nat.lt_of_le_of_lt (Nat.div_le_self _ _) h)
end Go.Proofs.YtngahohheleeeaaDoor
