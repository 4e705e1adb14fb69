/- The walk of hll.Count where there is a number. -/
import Derived.Test.YtngahohheleeeaaDoorO1
namespace Go.Proofs.YtngahohheleeeaaDoor
open Go.RowKit

set_option maxRecDepth 100000 in
set_option maxHeartbeats 1000000 in
theorem count_some (b : Nat) (s : ByteArray) (w : World) (h : rightB b s.data.toList = true) (hz : zeroB s.data.toList = false) :
    Calls Tryd.prog 10 #[.agg #[.int .i64 b, .string s]] w fun e w' => e = .returned (.int .u64 (cntTop s.size / (10 * cntSum s.data.toList) : Nat)) ∧ Below w.heap.size w w' := by
  have hl := rightB_len h
  have h8 := (rightB_iff b _).1 h
  have hs : s.size ≤ 256 := by have := pow_small (b := b) h8.2.1; have e : s.size = s.data.toList.length := (by simp); rw [e, h8.2.2.1]; exact this
  obtain ⟨t, ht0⟩ : ∃ t, t = Lib.trimB s.data.toList 0 := ⟨_, rfl⟩
  have ht := fun w => trim_any s w hs
  have hne : t ≠ [] := by
    intro h
    have := (trim_zero s.data.toList).1 (by rw [← ht0]; exact h)
    rw [hz] at this
    cases this
  rw [← ht0] at ht
  have htne : (⟨t.toArray⟩ : ByteArray).toList.isEmpty = false := by
    rw [ByteArray.toList_eq]
    cases t with
    | nil => exact absurd rfl hne
    | cons _ _ => rfl
  generalize (⟨t.toArray⟩ : ByteArray) = T at ht htne
  have hs8 : 8 ≤ s.size := by
    have e : s.size = s.data.toList.length := (by simp)
    rw [e, h8.2.2.1]
    exact Nat.pow_le_pow_right (n := 2) (by omega) h8.1
  have hbd := cnt_bd hs
  have hmul1 : IntKind.u64.wrap (7 * (s.size : Int) * (s.size : Int)) = ((7 * s.size * s.size : Nat) : Int) := by
    have e : (7 * (s.size : Int) * (s.size : Int)) = ((7 * s.size * s.size : Nat) : Int) := by simp
    rw [e]
    refine u64_small ?_
    unfold cntTop at hbd
    omega
  have hquo := fun F => quo_eq s.size F hbd
  clear hl h8 ht0 hne hbd
  have hr := fun w => right_any b s w
  rw [h] at hr
  obtain ⟨f, hf⟩ : ∃ f : Nat → Nat, ∀ k, f k = cntSum (s.data.toList.take k) := ⟨_, fun _ => rfl⟩
  have hf0 : f 0 = 0 := by rw [hf]; rfl
  have hfb : ∀ k, f k ≤ s.size * 4294967296 := fun k => by
    rw [hf]
    have h1 := cntSum_le (s.data.toList.take k)
    have h2 : (s.data.toList.take k).length ≤ s.size := by simpa using Nat.min_le_right k s.size
    exact Nat.le_trans h1 (Nat.mul_le_mul_right _ h2)
  have hfs : ∀ k (h : k < s.size), f (k + 1) = f k + wgt s[k] := fun k h => by
    have e : s.data.toList.take (k + 1) = s.data.toList.take k ++ [s[k]] := by
      rw [List.take_succ_eq_append_getElem (by simpa using h)]; rfl
    rw [hf, hf, e, cntSum_snoc]
  have hfn : f s.size = cntSum s.data.toList := by rw [hf, List.take_of_length_le (by simp)]
  rw [← hfn]
  have hfz : s.size ≤ f s.size := by rw [hfn]; have := cntSum_ge s.data.toList; simpa using this
  clear hf hfn
  go_enter Tryd.func10, Tryd.ntmps10
  go_wp2_with (first
    | (go_at_call 11; (first | (with_reducible refine Calls.mono (Calls.gr (hr _)) ?_) | (refine Calls.mono (Calls.gr0 (hr _)) ?_)); rintro e w' ⟨rfl, g, rfl⟩; have hgl := g.le; (try simp only [World.size_alloc] at hgl); (try simp only [World.size_setCell] at hgl))
    | (go_at_call 23; (first | (with_reducible refine Calls.mono (Calls.gr (ht _)) ?_) | (refine Calls.mono (Calls.gr0 (ht _)) ?_)); rintro e w' ⟨rfl, g, rfl⟩; have hgl := g.le; (try simp only [World.size_alloc] at hgl); (try simp only [World.size_setCell] at hgl)))
  go_loopw [3, 18] (fun sm i wr => ∃ (k : Nat) (g : Gr (w.alloc (Obj.cells #[Value.int IntKind.i64 b, Value.string s] 26))), wr = g.world ∧ k ≤ s.size ∧ i = .int .i64 k ∧ sm = .int .u64 (f k : Nat))
    (fun _ i _ => s.size - (intOf i).toNat)
  case atStart => exact ⟨0, g, rfl, Nat.zero_le _, rfl, by rw [hf0]; rfl⟩
  case round =>
    obtain ⟨k, g, rfl, hk, rfl, rfl⟩ := hrel
    have hfk := hfb k
    by_cases hlt : k < s.size
    · have hbt : s[k].toNat < 256 := UInt8.toNat_lt _
      have hst := hfs k hlt
      have hwr := wgt_wrap s[k] (f k) (by have := wgt_le s[k]; omega)
      rw [← hst] at hwr
      clear hst hfk hfs hfb
      go_wp2
      exact ⟨⟨k + 1, g, rfl, by omega, by go_num, rfl⟩, by simp [intOf]; omega⟩
    · obtain rfl : k = s.size := by omega
      have hQ := Lib.hid hquo
      have hw1 : IntKind.u64.wrap (7 * (s.size : Int) * (s.size : Int)) = ((7 * s.size * s.size : Nat) : Int) := hmul1
      have hw3 : IntKind.u64.wrap (10 * (f s.size : Int)) = 10 * (f s.size : Int) := by rw [IntKind.wrap_u64]; omega
      have hp : 0 < f s.size := by omega
      clear hfk hfb hfs hf0 hquo
      go_wp2
      go_ret
      exact ⟨congrArg (fun n => Ending.returned (Value.int IntKind.u64 n)) (hQ.out _), (by repeat (first | exact Below.refl _ _ | assumption | (refine Below.setCell ?_ (by (first | omega | (simp; done) | (simp; omega) | (simp at *; omega))) _) | (refine Below.alloc ?_ (by (first | omega | (simp; done) | (simp; omega) | (simp at *; omega))) _) | (refine Below.drew ?_) | (refine Gr.into _ ?_ (by (first | omega | (simp; done) | (simp; omega) | (simp at *; omega))))))⟩
theorem count_yes (b : Nat) (s : ByteArray) (w : World) (h : rightB b s.data.toList = true) :
    Calls Tryd.prog 10 #[.agg #[.int .i64 b, .string s]] w fun e w' => e = .returned (.int .u64 (countN s.data.toList)) ∧ Below w.heap.size w w' := by
  have hs : s.data.toList.length = s.size := by simp
  unfold countN
  rw [hs]
  cases hz : zeroB s.data.toList
  · exact count_some b s w h hz
  · exact count_zero b s w h hz
/-- What Count answers, of whatever registers. -/
theorem count_any (b : Int) (s : ByteArray) (w : World) :
    Calls Tryd.prog 10 #[.agg #[.int .i64 b, .string s]] w fun e w' => e = .returned (.int .u64 (countB b s.data.toList)) ∧ Below w.heap.size w w' := by
  unfold countB
  cases h : rightB b s.data.toList
  · exact count_no b s w h
  · obtain ⟨h1, h2⟩ := isBits_bd (rightB_bits h)
    obtain ⟨n, rfl⟩ := Int.eq_ofNat_of_zero_le (a := b) (by omega)
    exact count_yes n s w h
end Go.Proofs.YtngahohheleeeaaDoor
