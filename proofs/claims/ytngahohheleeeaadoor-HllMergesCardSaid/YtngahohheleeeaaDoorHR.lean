/- Plain laws on registers of numbers: which rank each holds; order, parts and repeats of the numbers do not matter. -/
import Derived.Test.YtngahohheleeeaaDoorHQ
namespace Go.Proofs.YtngahohheleeeaaDoor
open Go.RowKit

def val (l : List UInt8) (i : Nat) : Nat := (l.getD i 0).toNat
theorem val_ext {l m : List UInt8} (h : l.length = m.length) (hv : ∀ i, i < l.length → val l i = val m i) : l = m := by
  apply List.ext_getElem h
  intro i h1 h2
  have := hv i h1
  unfold val at this
  rw [List.getD_eq_getElem?_getD, List.getD_eq_getElem?_getD, List.getElem?_eq_getElem h1, List.getElem?_eq_getElem h2] at this
  exact UInt8.toNat_inj.1 this
theorem nat_ext {a b : Nat} (h : ∀ m, a ≤ m ↔ b ≤ m) : a = b := Nat.le_antisymm ((h b).2 (Nat.le_refl _)) ((h a).1 (Nat.le_refl _))
theorem val_addReg {b : Nat} {l : List UInt8} {n : Nat} (hb : b ≤ 8) {i : Nat} (hi : i < l.length) {m : Nat} :
    val (addReg b l n) i ≤ m ↔ val l i ≤ m ∧ (atN b n = i → rankN b n ≤ m) := by
  have h5 := rankN_bd (b := b) (n := n) hb
  have h7 : (UInt8.ofNat (rankN b n)).toNat = rankN b n := by simp; omega
  unfold val addReg
  by_cases h : atN b n = i
  · subst h
    have e : (l.set (atN b n) (max (l.getD (atN b n) 0) (UInt8.ofNat (rankN b n)))).getD (atN b n) 0 = max (l.getD (atN b n) 0) (UInt8.ofNat (rankN b n)) := by
      simp [List.getD, hi]
    rw [e, toNat_max, h7]
    constructor
    · intro h; exact ⟨by omega, fun _ => by omega⟩
    · rintro ⟨h1, h2⟩; have := h2 rfl; omega
  · have e : (l.set (atN b n) (max (l.getD (atN b n) 0) (UInt8.ofNat (rankN b n)))).getD i 0 = l.getD i 0 := by
      simp [List.getD, List.getElem?_set, h]
    rw [e]
    exact ⟨fun h1 => ⟨h1, fun h2 => absurd h2 h⟩, fun h1 => h1.1⟩
theorem val_addRegs {b : Nat} (hb : b ≤ 8) (zs : List Nat) : ∀ {l : List UInt8} {i : Nat}, i < l.length → ∀ {m : Nat},
    (val (addRegs b l zs) i ≤ m ↔ val l i ≤ m ∧ ∀ z ∈ zs, atN b z = i → rankN b z ≤ m) := by
  induction zs with
  | nil => intro l i hi m; exact ⟨fun h => ⟨h, fun z hz => by cases hz⟩, fun h => h.1⟩
  | cons z zs ih =>
    intro l i hi m
    show val (addRegs b (addReg b l z) zs) i ≤ m ↔ _
    rw [ih (by rw [addReg_length]; exact hi), val_addReg hb hi]
    constructor
    · rintro ⟨⟨h1, h2⟩, h3⟩
      refine ⟨h1, fun y hy he => ?_⟩
      rcases List.mem_cons.1 hy with rfl | hy
      · exact h2 he
      · exact h3 y hy he
    · rintro ⟨h1, h2⟩
      exact ⟨⟨h1, h2 z (by simp)⟩, fun y hy => h2 y (List.mem_cons_of_mem _ hy)⟩
/-- The registers of numbers. -/
def regsOf (b : Nat) (zs : List Nat) : List UInt8 := addRegs b (noRegs b) zs
theorem regsOf_length (b : Nat) (zs : List Nat) : (regsOf b zs).length = 2 ^ b := by simp [regsOf, addRegs_length, noRegs]
theorem val_noRegs (b i : Nat) : val (noRegs b) i = 0 := by
  unfold val noRegs
  by_cases h : i < 2 ^ b
  · simp [List.getD, List.getElem?_replicate, h]
  · simp [List.getD, List.getElem?_replicate, h]
theorem val_regsOf {b : Nat} (hb : b ≤ 8) (zs : List Nat) {i : Nat} (hi : i < 2 ^ b) {m : Nat} : val (regsOf b zs) i ≤ m ↔ ∀ z ∈ zs, atN b z = i → rankN b z ≤ m := by
  unfold regsOf
  rw [val_addRegs hb zs (by simpa [noRegs] using hi), val_noRegs]
  simp
theorem regsOf_right {b : Nat} (h : isBitsB b = true) (zs : List Nat) : rightB b (regsOf b zs) = true := rightB_addRegs zs (noRegs_right b h)
/-- A number that was there changes nothing. -/
theorem regsOf_again {b : Nat} (hb : b ≤ 8) {zs : List Nat} {z : Nat} (hz : z ∈ zs) : addReg b (regsOf b zs) z = regsOf b zs := by
  refine val_ext (addReg_length _ _ _) fun i hi => nat_ext fun m => ?_
  rw [addReg_length] at hi
  have hi' : i < 2 ^ b := by rwa [regsOf_length] at hi
  rw [val_addReg hb hi, val_regsOf hb zs hi']
  exact ⟨fun h => h.1, fun h => ⟨h, h z hz⟩⟩
theorem regsOf_rank {b : Nat} (hb : b ≤ 8) {zs : List Nat} {z : Nat} (hz : z ∈ zs) (hn : z < 2 ^ 64) : rankN b z ≤ val (regsOf b zs) (atN b z) :=
  (val_regsOf hb zs (atN_lt hb hn)).1 (Nat.le_refl _) z hz rfl
theorem val_merge {s t : List UInt8} (h : s.length = t.length) {i : Nat} (hi : i < s.length) {m : Nat} : val (mergeB s t) i ≤ m ↔ val s i ≤ m ∧ val t i ≤ m := by
  have hi2 : i < t.length := by omega
  have e : val (mergeB s t) i = max (val s i) (val t i) := by
    unfold val
    rw [← toNat_max]
    simp [mergeB, List.getD, hi, hi2, List.getElem?_zipWith]
  rw [e]
  omega
theorem merge_length {s t : List UInt8} (h : s.length = t.length) : (mergeB s t).length = s.length := by simp [mergeB]; omega
theorem merge_regsOf {b : Nat} (hb : b ≤ 8) (xs ys : List Nat) : mergeB (regsOf b xs) (regsOf b ys) = regsOf b (xs ++ ys) := by
  have hl : (regsOf b xs).length = (regsOf b ys).length := by rw [regsOf_length, regsOf_length]
  refine val_ext (by rw [merge_length hl, regsOf_length, regsOf_length]) fun i hi => nat_ext fun m => ?_
  rw [merge_length hl, regsOf_length] at hi
  rw [val_merge hl (by rw [regsOf_length]; exact hi), val_regsOf hb _ hi, val_regsOf hb _ hi, val_regsOf hb _ hi]
  simp only [List.mem_append]
  exact ⟨fun h z hz => hz.elim (h.1 z) (h.2 z), fun h => ⟨fun z hz => h z (.inl hz), fun z hz => h z (.inr hz)⟩⟩
theorem regsOf_mem {b : Nat} (hb : b ≤ 8) {xs ys : List Nat} (h : ∀ z, z ∈ xs ↔ z ∈ ys) : regsOf b xs = regsOf b ys := by
  refine val_ext (by rw [regsOf_length, regsOf_length]) fun i hi => nat_ext fun m => ?_
  rw [regsOf_length] at hi
  rw [val_regsOf hb _ hi, val_regsOf hb _ hi]
  exact ⟨fun g z hz => g z ((h z).2 hz), fun g z hz => g z ((h z).1 hz)⟩
end Go.Proofs.YtngahohheleeeaaDoor
