/- The document's answer for layer 7: isBits, Right, Place, New. -/
import Derived.Test.YtngahohheleeeaaA4
namespace Go.Proofs.Ytngahohheleeeaa
open Go.RowKit

set_option maxHeartbeats 400000 in
theorem risBits_any (n : Int) (w : World) :
    Calls Try.prog 27 #[.int .i64 n] w fun e w' => e = .returned (.bool (isBitsB n)) ∧ w = w' := by
  by_cases h1 : 3 ≤ n
  · by_cases h2 : n ≤ 8
    all_goals
      go_enter Try.func27, Try.ntmps27
      go_wp2
      go_ret
      exact ⟨by simp [isBitsB, *]; try omega, rfl⟩
  · go_enter Try.func27, Try.ntmps27
    go_wp2
    go_ret
    exact ⟨by simp [isBitsB, *]; try omega, rfl⟩

theorem rright_no1 (b : Int) (s : ByteArray) (w : World) (h : isBitsB b = false) :
    Calls Try.prog 20 #[.agg #[.int .i64 b, .string s]] w fun e w' => e = .returned (.bool false) ∧ Below w.heap.size w w' := by
  go_enter Try.func20, Try.ntmps20
  go_wp2
  refine wp_region_gr (by kernel_rfl) (by kernel_rfl) ?_
  repeat (go_big_quiet_step (first | (go_at_call 27; exact Calls.gr (below_self (risBits_any _ _)))))
  refine wpQuiet_nil ?_
  intro g
  go_wp2
  go_ret
  exact ⟨rfl, (by repeat (first | exact Below.refl _ _ | assumption | (refine Below.setCell ?_ (by (first | omega | (simp; done) | (simp; omega) | (simp at *; omega))) _) | (refine Below.alloc ?_ (by (first | omega | (simp; done) | (simp; omega) | (simp at *; omega))) _) | (refine Below.drew ?_) | (refine Gr.into _ ?_ (by (first | omega | (simp; done) | (simp; omega) | (simp at *; omega))))))⟩

theorem rright_no2 (b : Int) (s : ByteArray) (w : World) (h : isBitsB b = true) (hs : ((s.size : Int) != pwr b) = true) :
    Calls Try.prog 20 #[.agg #[.int .i64 b, .string s]] w fun e w' => e = .returned (.bool false) ∧ Below w.heap.size w w' := by
  obtain ⟨hb, hb'⟩ := isBits_bd h
  have hp := pwr_wrap hb hb'
  go_enter Try.func20, Try.ntmps20
  go_wp2
  refine wp_region_gr (by kernel_rfl) (by kernel_rfl) ?_
  repeat (go_big_quiet_step (first | (go_at_call 27; exact Calls.gr (below_self (risBits_any _ _)))))
  refine wpQuiet_nil ?_
  intro g
  go_wp2
  go_ret
  exact ⟨rfl, (by repeat (first | exact Below.refl _ _ | assumption | (refine Below.setCell ?_ (by (first | omega | (simp; done) | (simp; omega) | (simp at *; omega))) _) | (refine Below.alloc ?_ (by (first | omega | (simp; done) | (simp; omega) | (simp at *; omega))) _) | (refine Below.drew ?_) | (refine Gr.into _ ?_ (by (first | omega | (simp; done) | (simp; omega) | (simp at *; omega))))))⟩

theorem rright_go (b : Int) (s : ByteArray) (w : World) (h : isBitsB b = true) (hs : ((s.size : Int) != pwr b) = false) :
    Calls Try.prog 20 #[.agg #[.int .i64 b, .string s]] w fun e w' => e = .returned (.bool (upTo (65 - b) s.data.toList)) ∧ Below w.heap.size w w' := by
  obtain ⟨hb, hb'⟩ := isBits_bd h
  have hp := pwr_wrap hb hb'
  have hsz : s.size ≤ 256 := by have := pwr_bd hb hb'; simp at hs; omega
  go_enter Try.func20, Try.ntmps20
  go_wp2
  refine wp_region_gr (by kernel_rfl) (by kernel_rfl) ?_
  repeat (go_big_quiet_step (first | (go_at_call 27; exact Calls.gr (below_self (risBits_any _ _)))))
  refine wpQuiet_nil ?_
  intro g
  go_wp2
  go_loopw [3] (fun i wr => ∃ (k : Nat) (g : Gr (w.alloc (Obj.cells #[Value.int IntKind.i64 b, Value.string s] 23))), wr = g.world ∧ k ≤ s.size ∧ i = .int .i64 k ∧ upTo (65 - b) (s.data.toList.take k) = true)
    (fun i _ => s.size - (intOf i).toNat)
  case atStart => exact ⟨0, g, rfl, Nat.zero_le _, rfl, by simp [upTo]⟩
  case round =>
    obtain ⟨k, g, rfl, hk, rfl, hu⟩ := hrel
    by_cases hlt : k < s.size
    · have hbt : s[k].toNat < 256 := UInt8.toNat_lt _
      have hH : Hid (upTo (65 - b) (s.data.toList.take k) = true) := hu
      clear hu
      by_cases hle : (s[k].toNat : Int) ≤ 65 - b
      · have hle' : ((65 - b < (s[k].toNat : Int))) = False := by simp; omega
        go_wp2
        refine wp_region_gr' (by kernel_rfl) (by kernel_rfl) ?_
        repeat (go_big_quiet_step (first | fail))
        refine wpQuiet_nil ?_
        intro g2
        go_wp2
        go_roundw
        case rel => exact ⟨k + 1, g2, rfl, by omega, by go_num, by rw [upTo_snoc _ _ _ hlt, hH.out]; simpa using hle⟩
        case measure => simp [intOf]; omega
      · have hle' : ((65 - b < (s[k].toNat : Int))) = True := by simp; omega
        go_wp2
        refine wp_region_gr' (by kernel_rfl) (by kernel_rfl) ?_
        repeat (go_big_quiet_step (first | fail))
        refine wpQuiet_nil ?_
        intro g2
        go_wp2
        go_ret
        refine ⟨?_, (by repeat (first | exact Below.refl _ _ | assumption | (refine Below.setCell ?_ (by (first | omega | (simp; done) | (simp; omega) | (simp at *; omega))) _) | (refine Below.alloc ?_ (by (first | omega | (simp; done) | (simp; omega) | (simp at *; omega))) _) | (refine Below.drew ?_) | (refine Gr.into _ ?_ (by (first | omega | (simp; done) | (simp; omega) | (simp at *; omega))))))⟩
        rw [upTo_no _ _ k hlt (by omega)]
        rfl
    · go_wp2
      go_ret
      refine ⟨?_, (by repeat (first | exact Below.refl _ _ | assumption | (refine Below.setCell ?_ (by (first | omega | (simp; done) | (simp; omega) | (simp at *; omega))) _) | (refine Below.alloc ?_ (by (first | omega | (simp; done) | (simp; omega) | (simp at *; omega))) _) | (refine Below.drew ?_) | (refine Gr.into _ ?_ (by (first | omega | (simp; done) | (simp; omega) | (simp at *; omega))))))⟩
      rw [List.take_of_length_le (by simp; omega)] at hu
      rw [hu]
      rfl
theorem rright_any (b : Int) (s : ByteArray) (w : World) :
    Calls Try.prog 20 #[.agg #[.int .i64 b, .string s]] w fun e w' => e = .returned (.bool (rightB b s.data.toList)) ∧ Below w.heap.size w w' := by
  have es : s.data.toList.length = s.size := by simp
  cases h : isBitsB b
  · exact (rright_no1 b s w h).mono fun _ _ ⟨he, hb⟩ => ⟨by rw [he]; simp [rightB, h], hb⟩
  · cases h2 : ((s.size : Int) != pwr b)
    · exact (rright_go b s w h h2).mono fun _ _ ⟨he, hb⟩ => ⟨by rw [he]; simp only [rightB, h, es, h2]; rfl, hb⟩
    · exact (rright_no2 b s w h h2).mono fun _ _ ⟨he, hb⟩ => ⟨by rw [he]; simp only [rightB, h, es, h2]; rfl, hb⟩

theorem made_zero (b c : Nat) (hc : c = 2 ^ b) : (madeCells #[Value.int .u8 0] c).toList = Lib.byteCells (noRegs b) := by
  subst hc
  refine List.ext_getElem (by simp [madeCells, Lib.byteCells, noRegs]) fun i h1 h2 => ?_
  simp [madeCells, Lib.byteCells, noRegs, Nat.mod_one]
theorem rnew_no (b : Int) (w : World) (h : isBitsB b = false) :
    Calls Try.prog 18 #[.int .i64 b] w fun e w' => e = hllRes 0 ⟨#[]⟩ 70 ∧ Below w.heap.size w w' := by
  go_enter Try.func18, Try.ntmps18
  go_wp2_with (first
    | (go_at_call 27; (first | (with_reducible refine Calls.mono (Calls.gr (below_self (risBits_any _ _))) ?_) | (refine Calls.mono (Calls.gr0 (below_self (risBits_any _ _))) ?_)); rintro e w' ⟨rfl, g, rfl⟩; have hgl := g.le; (try simp only [World.size_alloc] at hgl); (try simp only [World.size_setCell] at hgl)))
  exact bodyPost_ret (v := .tuple #[.agg #[.int .i64 0, .string ⟨#[]⟩], .int .i64 70]) (by simp [results, Try.results18, go_sem]) rfl ⟨rfl, (by repeat (first | exact Below.refl _ _ | assumption | (refine Below.setCell ?_ (by (first | omega | (simp; done) | (simp; omega) | (simp at *; omega))) _) | (refine Below.alloc ?_ (by (first | omega | (simp; done) | (simp; omega) | (simp at *; omega))) _) | (refine Below.drew ?_) | (refine Gr.into _ ?_ (by (first | omega | (simp; done) | (simp; omega) | (simp at *; omega))))))⟩
theorem rnew_yes (b : Nat) (w : World) (h : isBitsB b = true) :
    Calls Try.prog 18 #[.int .i64 b] w fun e w' => e = hllRes b ⟨(noRegs b).toArray⟩ 0 ∧ Below w.heap.size w w' := by
  obtain ⟨h1, h2⟩ := isBits_bd h
  obtain ⟨c, hc⟩ : ∃ c : Nat, c = 2 ^ b := ⟨_, rfl⟩
  have hc' : c ≤ 256 := by rw [hc]; exact pow_small (by omega)
  have hp : wrap64 (2 ^ b) = (c : Int) := by
    have := pwr_wrap h1 h2
    rw [hc]
    simpa [pwr] using this
  have hz : (noRegs b).length = c := by simp [noRegs, hc]
  have hcells : (madeCells #[Value.int .u8 0] c).toList = Lib.byteCells (noRegs b) := made_zero _ _ hc
  generalize noRegs b = S at *
  have hmk : ∀ w : World, Sem.run Try.prog (Instr.makeSlice 44 (.int .i64 c) (.int .i64 c)) w = .ok (.slice (some ⟨w.heap.size, 0, none⟩) c c) (w.alloc (.cells (madeCells #[.int .u8 0] c) 5)) := fun w => by
    have := run_make (P := Try.prog) w 44 5 _ (.int .u8 0) rfl rfl rfl .i64 .i64 c c (by omega) (by omega) (by show (1 : Int) * c ≤ _; omega) (by omega)
    rw [this]
    simp only [Value.cells, Int.toNat_natCast]
    exact congrArg (fun n => Result.ok (Value.slice (some ⟨w.heap.size, 0, none⟩) c c) (w.alloc (Obj.cells (madeCells #[Value.int .u8 0] n) 5))) (Nat.mul_one c)
  have hst : ∀ w : World, Sem.run Try.prog (convert 44 9 (.slice (some ⟨w.heap.size, 0, none⟩) c c)) (w.alloc (.cells (madeCells #[.int .u8 0] c) 5)) = .ok (.string ⟨S.toArray⟩) (w.alloc (.cells (madeCells #[.int .u8 0] c) 5)) := fun w => by
    have r := RowAt.of_new w (madeCells #[.int .u8 0] c) 5
    rw [hcells] at r
    have := r.string (P := Try.prog) (src := 44) (dst := 9) (cap := c) rfl rfl rfl
    rwa [hz] at this
  clear hc hcells hz
  go_enter Try.func18, Try.ntmps18
  go_wp2_with (first
    | (go_at_call 27; (first | (with_reducible refine Calls.mono (Calls.gr (below_self (risBits_any _ _))) ?_) | (refine Calls.mono (Calls.gr0 (below_self (risBits_any _ _))) ?_)); rintro e w' ⟨rfl, g, rfl⟩; have hgl := g.le; (try simp only [World.size_alloc] at hgl); (try simp only [World.size_setCell] at hgl)))
  exact bodyPost_ret (v := .tuple #[.agg #[.int .i64 b, .string ⟨S.toArray⟩], .int .i64 0]) (by simp [results, Try.results18, go_sem]) rfl ⟨rfl, (by repeat (first | exact Below.refl _ _ | assumption | (refine Below.setCell ?_ (by (first | omega | (simp; done) | (simp; omega) | (simp at *; omega))) _) | (refine Below.alloc ?_ (by (first | omega | (simp; done) | (simp; omega) | (simp at *; omega))) _) | (refine Below.drew ?_) | (refine Gr.into _ ?_ (by (first | omega | (simp; done) | (simp; omega) | (simp at *; omega))))))⟩
end Go.Proofs.Ytngahohheleeeaa
