/- The walk of the reference's Count. -/
import Derived.Test.YtngahohheleeeaaDoorO2
import Derived.Test.YtngahohheleeeaaDoorM0
namespace Go.Proofs.YtngahohheleeeaaDoor
open Go.RowKit

theorem rcount_no (b : Int) (s : ByteArray) (w : World) (h : rightB b s.data.toList = false) :
    Calls Tryd.prog 17 #[.agg #[.int .i64 b, .string s]] w fun e w' => e = .returned (.int .u64 0) ∧ Below w.heap.size w w' := by
  have hr := fun w => rright_any b s w
  rw [h] at hr
  go_enter Tryd.func17, Tryd.ntmps17
  go_wp2
  refine wp_loop_rounds 1 ?_
  rw [rounds_succ]
  by_cases h0 : 0 < s.size
  · go_wp2_with (first
      | (go_at_call 29; (first | (with_reducible refine Calls.mono (Calls.gr (hr _)) ?_) | (refine Calls.mono (Calls.gr0 (hr _)) ?_)); rintro e w' ⟨rfl, g, rfl⟩; have hgl := g.le; (try simp only [World.size_alloc] at hgl); (try simp only [World.size_setCell] at hgl)))
    go_ret
    exact ⟨rfl, (by repeat (first | exact Below.refl _ _ | assumption | (refine Below.setCell ?_ (by (first | omega | (simp; done) | (simp; omega) | (simp at *; omega))) _) | (refine Below.alloc ?_ (by (first | omega | (simp; done) | (simp; omega) | (simp at *; omega))) _) | (refine Below.drew ?_) | (refine Gr.into _ ?_ (by (first | omega | (simp; done) | (simp; omega) | (simp at *; omega))))))⟩
  · go_wp2
    go_ret
    exact ⟨rfl, (by repeat (first | exact Below.refl _ _ | assumption | (refine Below.setCell ?_ (by (first | omega | (simp; done) | (simp; omega) | (simp at *; omega))) _) | (refine Below.alloc ?_ (by (first | omega | (simp; done) | (simp; omega) | (simp at *; omega))) _) | (refine Below.drew ?_) | (refine Gr.into _ ?_ (by (first | omega | (simp; done) | (simp; omega) | (simp at *; omega))))))⟩

set_option maxRecDepth 100000 in
set_option maxHeartbeats 1000000 in
theorem rcount_yes (b : Nat) (s : ByteArray) (w : World) (h : rightB b s.data.toList = true) :
    Calls Tryd.prog 17 #[.agg #[.int .i64 b, .string s]] w fun e w' => e = .returned (.int .u64 (countN s.data.toList)) ∧ Below w.heap.size w w' := by
  have h8 := (rightB_iff b _).1 h
  have hl : s.data.toList.length = s.size := (by simp)
  have hs : s.size ≤ 256 := by rw [← hl, h8.2.2.1]; exact pow_small (b := b) h8.2.1
  have hs8 : 8 ≤ s.size := by rw [← hl, h8.2.2.1]; exact Nat.pow_le_pow_right (n := 2) (by omega) h8.1
  have hbd := cnt_bd hs
  have hmul1 : IntKind.u64.wrap (7 * (s.size : Int) * (s.size : Int)) = ((7 * s.size * s.size : Nat) : Int) := by
    have e : (7 * (s.size : Int) * (s.size : Int)) = ((7 * s.size * s.size : Nat) : Int) := by simp
    rw [e]
    refine u64_small ?_
    unfold cntTop at hbd
    omega
  have hquo := fun F => quo_eq s.size F hbd
  obtain ⟨f, hf⟩ : ∃ f : Nat → Nat, ∀ k, f k = cntSum (s.data.toList.take k) := ⟨_, fun _ => rfl⟩
  have hf0 : f 0 = 0 := by rw [hf]; rfl
  have hfb : ∀ k, f k ≤ s.size * 4294967296 := fun k => by
    rw [hf]
    have h1 := cntSum_le (s.data.toList.take k)
    have h2 : (s.data.toList.take k).length ≤ s.size := by simpa using Nat.min_le_right k s.size
    exact Nat.le_trans h1 (Nat.mul_le_mul_right _ h2)
  have hfs : ∀ k (h : k < s.size), f (k + 1) = f k + wgt s[k] := fun k h => by
    have e : s.data.toList.take (k + 1) = s.data.toList.take k ++ [s[k]] := by
      rw [List.take_succ_eq_append_getElem (by simpa using h)]; rfl
    rw [hf, hf, e, cntSum_snoc]
  have hfn : f s.size = cntSum s.data.toList := by rw [hf, List.take_of_length_le (by simp)]
  have hfz : s.size ≤ f s.size := by rw [hfn]; have := cntSum_ge s.data.toList; simpa using this
  obtain ⟨z, hz⟩ : ∃ z : Nat → Bool, ∀ k, z k = zeroB (s.data.toList.take k) := ⟨_, fun _ => rfl⟩
  have hz0 : z 0 = true := by rw [hz]; rfl
  have hzs : ∀ k (h : k < s.size), z (k + 1) = (z k && s[k] == 0) := fun k h => by
    have e : s.data.toList.take (k + 1) = s.data.toList.take k ++ [s[k]] := by
      rw [List.take_succ_eq_append_getElem (by simpa using h)]; rfl
    rw [hz, hz, e, zeroB_snoc]
  have hzn : z s.size = zeroB s.data.toList := by rw [hz, List.take_of_length_le (by simp)]
  obtain ⟨res, hres⟩ : ∃ res, res = countN s.data.toList := ⟨_, rfl⟩
  have hres1 : z s.size = true → (0 : Nat) = res := fun h => by
    rw [hres]; unfold countN; rw [← hzn, if_pos h]
  have hres0 : z s.size = false → cntTop s.size / (10 * f s.size) = res := fun h => by
    rw [hres, hfn]; unfold countN; rw [hl, ← hzn, if_neg (by rw [h]; simp)]
  rw [← hres]
  have hr := fun w => rright_any b s w
  rw [h] at hr
  clear hf hfn hz hzn hres h8 hl hbd h
  have HR1 := Lib.hid hres1
  have HR0 := Lib.hid hres0
  clear hres1 hres0
  go_enter Tryd.func17, Tryd.ntmps17
  go_wp2
  go_loopw [3, 4, 5] (fun sm so i wr => ∃ (k : Nat) (g : Gr (w.alloc (Obj.cells #[Value.int IntKind.i64 b, Value.string s] 26))), wr = g.world ∧ k ≤ s.size ∧ i = .int .i64 k ∧ sm = .int .u64 (f k : Nat) ∧ so = .bool (!z k))
    (fun _ _ i _ => s.size - (intOf i).toNat)
  case atStart => exact ⟨0, ⟨_, Below.refl _ _⟩, rfl, Nat.zero_le _, rfl, by rw [hf0]; rfl, by rw [hz0]; rfl⟩
  case round =>
    obtain ⟨k, g, rfl, hk, rfl, rfl, rfl⟩ := hrel
    by_cases hlt : k < s.size
    · have hbt : s[k].toNat < 256 := UInt8.toNat_lt _
      have hst := hfs k hlt
      have hzt := hzs k hlt
      have hfk := hfb k
      have hwr := wgt_wrap s[k] (f k) (by have := wgt_le s[k]; omega)
      rw [← hst] at hwr
      have hzt1 : z k = true → Value.bool (decide (0 < s[k].toNat)) = Value.bool (!z (k + 1)) := fun h => by
        rw [hzt, h]
        refine congrArg Value.bool ?_
        rcases Nat.eq_zero_or_pos s[k].toNat with h0 | h0
        · have : s[k] = 0 := UInt8.toNat_inj.1 (by simpa using h0)
          rw [this]; rfl
        · have : s[k] ≠ 0 := fun e => by rw [e] at h0; exact absurd h0 (by decide)
          simp [h0, this]
      have hzt0 : z k = false → Value.bool true = Value.bool (!z (k + 1)) := fun h => by rw [hzt, h]; rfl
      have HZ1 := Lib.hid hzt1
      have HZ0 := Lib.hid hzt0
      clear hst hfk hfs hfb hzs hzt hzt1 hzt0
      cases hzk : z k
      all_goals
        go_wp2_with (first
          | (go_at_call 29; (first | (with_reducible refine Calls.mono (Calls.gr (hr _)) ?_) | (refine Calls.mono (Calls.gr0 (hr _)) ?_)); rintro e w' ⟨rfl, g, rfl⟩; have hgl := g.le; (try simp only [World.size_alloc] at hgl); (try simp only [World.size_setCell] at hgl)))
        refine ⟨⟨k + 1, g, rfl, by omega, by go_num, rfl, ?_⟩, by simp [intOf]; omega⟩
        first | exact HZ1.out hzk | exact HZ0.out hzk
    · obtain rfl : k = s.size := by omega
      have hQ := Lib.hid hquo
      have hw3 : IntKind.u64.wrap (10 * (f s.size : Int)) = 10 * (f s.size : Int) := by have := hfb s.size; rw [IntKind.wrap_u64]; omega
      have hp : 0 < f s.size := by omega
      clear hfb hfs hf0 hquo
      cases hzz : z s.size
      · have hE : ((cntTop s.size / (10 * f s.size) : Nat) : Int) = (res : Nat) := congrArg (fun n : Nat => (n : Int)) (HR0.out hzz)
        have hE2 := Lib.hid ((hQ.out (f s.size)).trans hE)
        clear HR0 HR1 hE hQ
        go_wp2
        go_ret
        exact ⟨congrArg (fun n => Ending.returned (Value.int IntKind.u64 n)) hE2.out, (by repeat (first | exact Below.refl _ _ | assumption | (refine Below.setCell ?_ (by (first | omega | (simp; done) | (simp; omega) | (simp at *; omega))) _) | (refine Below.alloc ?_ (by (first | omega | (simp; done) | (simp; omega) | (simp at *; omega))) _) | (refine Below.drew ?_) | (refine Gr.into _ ?_ (by (first | omega | (simp; done) | (simp; omega) | (simp at *; omega))))))⟩
      · have hE2 := Lib.hid (congrArg (fun n : Nat => (n : Int)) (HR1.out hzz))
        clear HR0 HR1
        go_wp2
        go_ret
        exact ⟨congrArg (fun n => Ending.returned (Value.int IntKind.u64 n)) hE2.out, (by repeat (first | exact Below.refl _ _ | assumption | (refine Below.setCell ?_ (by (first | omega | (simp; done) | (simp; omega) | (simp at *; omega))) _) | (refine Below.alloc ?_ (by (first | omega | (simp; done) | (simp; omega) | (simp at *; omega))) _) | (refine Below.drew ?_) | (refine Gr.into _ ?_ (by (first | omega | (simp; done) | (simp; omega) | (simp at *; omega))))))⟩
theorem rcount_any (b : Int) (s : ByteArray) (w : World) :
    Calls Tryd.prog 17 #[.agg #[.int .i64 b, .string s]] w fun e w' => e = .returned (.int .u64 (countB b s.data.toList)) ∧ Below w.heap.size w w' := by
  unfold countB
  cases h : rightB b s.data.toList
  · exact rcount_no b s w h
  · obtain ⟨h1, h2⟩ := isBits_bd (rightB_bits h)
    obtain ⟨n, rfl⟩ := Int.eq_ofNat_of_zero_le (a := b) (by omega)
    exact rcount_yes n s w h
end Go.Proofs.YtngahohheleeeaaDoor
