/- Package hll's Place, New, told, start, end. -/
import Derived.Test.YtngahohheleeeaaDoorA1
import Derived.Test.YtngahohheleeeaaDoorTail
import Derived.Test.YtngahohheleeeaaDoorHP
import Derived.Test.YtngahohheleeeaaDoorShelf

namespace Go.Proofs.YtngahohheleeeaaDoor
open Go.RowKit

theorem u64_lo (x : Int) : 0 ≤ IntKind.u64.wrap x := by rw [IntKind.wrap_u64]; omega
theorem u64_hi (x : Int) : IntKind.u64.wrap x ≤ 18446744073709551615 := by rw [IntKind.wrap_u64]; omega
set_option maxHeartbeats 400000 in
theorem place_go (b n : Int) (w : World) (h : isBitsB b = true) :
    Calls Tryd.prog 18 #[.int .i64 b, .int .u64 n] w fun e w' => e = .returned (.tuple #[.int .i64 (plAt b n), .int .i64 (plRank b n)]) ∧ Below w.heap.size w w' := by
  obtain ⟨hb, hb'⟩ := isBits_bd h
  go_enter Tryd.func18, Tryd.ntmps18
  go_wp2_with (first | (go_at_call 20; refine (isBits_any _ _).mono ?_; rintro e w' ⟨rfl, rfl⟩))
  refine wp_region_gr (by kernel_rfl) (by kernel_rfl) ?_
  repeat (go_big_quiet_step (first | (go_at_call 24; exact Calls.gr (below_self (most_any _ _ (by omega) (by omega)))) | (go_at_call 31; exact Calls.gr (below_self' (Tryd.bits_LeadingZeros64 _ _ (u64_lo _) (u64_hi _))))))
  refine wpQuiet_nil ?_
  intro g
  go_wp2
  go_ret2
  exact ⟨rfl, g.below⟩
theorem place_no (b n : Int) (w : World) (h : isBitsB b = false) :
    Calls Tryd.prog 18 #[.int .i64 b, .int .u64 n] w fun e w' => e = .returned (.tuple #[.int .i64 0, .int .i64 0]) ∧ Below w.heap.size w w' := by
  go_enter Tryd.func18, Tryd.ntmps18
  go_wp2_with (first | (go_at_call 20; refine (isBits_any _ _).mono ?_; rintro e w' ⟨rfl, rfl⟩))
  go_ret2
  exact ⟨rfl, Below.refl _ _⟩
theorem told_wrong (w : World) :
    Calls Tryd.prog 21 #[.iface 46 (.agg #[])] w fun e w' => e = .returned (.int .i64 70) ∧ Below w.heap.size w w' := by
  have hta : ∀ w, Sem.run Tryd.prog (Instr.typeAssert (.iface 46 (.agg #[])) 53 46 true) w = .ok (.tuple #[.agg #[], .bool true]) w := fun _ => by kernel_rfl
  go_enter Tryd.func21, Tryd.ntmps21
  go_wp2
  go_ret
  exact ⟨rfl, (Below.refl _ _).alloc (Nat.le_refl _) _⟩

def rightB (b : Int) (l : List UInt8) : Bool := isBitsB b && !((l.length : Int) != pwr b) && upTo (65 - b) l
theorem right_any (b : Int) (s : ByteArray) (w : World) :
    Calls Tryd.prog 11 #[.agg #[.int .i64 b, .string s]] w fun e w' => e = .returned (.bool (rightB b s.data.toList)) ∧ Below w.heap.size w w' := by
  have es : s.data.toList.length = s.size := by simp
  cases h : isBitsB b
  · exact (right_no1 b s w h).mono fun _ _ ⟨he, hb⟩ => ⟨by rw [he]; simp [rightB, h], hb⟩
  · cases h2 : ((s.size : Int) != pwr b)
    · exact (right_go b s w h h2).mono fun _ _ ⟨he, hb⟩ => ⟨by rw [he]; simp only [rightB, h, es, h2]; rfl, hb⟩
    · exact (right_no2 b s w h h2).mono fun _ _ ⟨he, hb⟩ => ⟨by rw [he]; simp only [rightB, h, es, h2]; rfl, hb⟩
theorem start_no (b : Int) (s : ByteArray) (w : World) (h : rightB b s.data.toList = false) :
    Calls Tryd.prog 25 #[.agg #[.int .i64 b, .string s]] w fun e w' => e = .returned (.tuple #[.pointer none, .iface 46 (.agg #[])]) ∧ Below w.heap.size w w' := by
  go_enter Tryd.func25, Tryd.ntmps25
  go_wp2_with (first | (go_at_call 11; refine (right_any _ _ _).mono ?_; rintro e w' ⟨rfl, hb⟩))
  go_ret2
  exact ⟨rfl, ((Below.refl _ _).alloc (Nat.le_refl _) _).trans (hb.mono (by simp))⟩
/-- The registers at work. -/
def IsWork (B : Nat) (w : World) (bw : Nat) (b : Int) (s : ByteArray) (l : List UInt8) : Prop :=
  ∃ br cap : Nat, B ≤ br ∧ B ≤ bw ∧ br < bw ∧ l.length ≤ cap ∧
    RowAt w bw 64 [.int .i64 b, .string s, .slice (some ⟨br, 0, none⟩) l.length cap] ∧ RowAt w br 5 (Lib.byteCells l)
def StartPost (w : World) (b : Int) (s : ByteArray) (e : Ending) (w' : World) : Prop :=
  ∃ bw : Nat, e = .returned (.tuple #[.pointer (some ⟨bw, 0, none⟩), .nilIface]) ∧ Below w.heap.size w w' ∧ IsWork w.heap.size w' bw b s s.data.toList
theorem start_yes (b : Int) (s : ByteArray) (w : World) (h : rightB b s.data.toList = true) :
    Calls Tryd.prog 25 #[.agg #[.int .i64 b, .string s]] w (StartPost w b s) := by
  have hconv : ∀ w, Sem.run Tryd.prog (convert 9 62 (.string s)) w = .ok (.slice (some ⟨w.heap.size, 0, none⟩) s.size (grownCap w s.size 0 5)) (Lib.bytesWorld w 5 s) := fun w => Lib.run_convert_string_bytes w _ _ _ s Tryd.underlying9 Tryd.underlying62 Tryd.underlying5
  have hsz := Lib.bytesWorld_size
  go_enter Tryd.func25, Tryd.ntmps25
  go_wp2_with (first | (go_at_call 11; refine (Calls.gr0 (right_any _ _ _)).mono ?_; rintro e w' ⟨rfl, g, rfl⟩))
  go_ret2
  have hB : Below w.heap.size w g.world := g.into ((Below.refl _ _).alloc (Nat.le_refl _) _) (by simp)
  have hg := g.le
  simp only [World.size_alloc] at hg
  have hl : s.data.toList.length = s.size := by simp
  refine ⟨g.world.heap.size + 1, rfl, (hB.trans (Joins.below_bytesWorld _ _ _ s (by omega))).alloc (by rw [hsz]; omega) _, g.world.heap.size, grownCap g.world s.size 0 5, by omega, by omega, by omega, by rw [hl]; exact grownCap_ge _ _ _ _, ?_, (RowAt.bytes _ _ _).alloc _⟩
  rw [hl]
  exact RowAt.new_at _ _ _ _ (hsz _ _ _).symm

theorem end_any (B : Nat) (bw : Nat) (b : Int) (s : ByteArray) (l : List UInt8) (w : World) (h : IsWork B w bw b s l) :
    Calls Tryd.prog 28 #[.pointer (some ⟨bw, 0, none⟩)] w fun e w' => e = .returned (.agg #[.int .i64 b, .string ⟨l.toArray⟩]) ∧ Below w.heap.size w w' := by
  obtain ⟨br, cap, h1, h2, h3, h4, h5, h6⟩ := h
  have hw := h5
  have c0 := hw.cell 0 (by simp)
  have c2 := hw.cell 2 (by simp)
  have hlt := hw.lt
  have hstr : ∀ g : Gr (w.alloc (Obj.cells #[Value.int IntKind.i64 0, Value.string { data := #[] }] 26)), Sem.run Tryd.prog (convert 62 9 (.slice (some ⟨br, 0, none⟩) l.length cap)) g.world = .ok (.string ⟨l.toArray⟩) g.world := fun g => ((h6.alloc _).gr g).string Tryd.underlying62 Tryd.underlying5 Tryd.underlying9
  clear h5 hw h6 h1 h2 h3 h4
  simp at c0 c2
  go_enter Tryd.func28, Tryd.ntmps28
  go_wp2
  refine wp_region_gr_tail 11 (by kernel_rfl) (by kernel_rfl) ?_
  simp only [List.take_succ_cons, List.take_zero, List.drop_succ_cons, List.drop_zero]
  repeat (go_big_quiet_step (fail))
  refine wpQuiet_nil ?_
  intro g
  go_wp2
  exact bodyPost_ret (v := .agg #[.int .i64 b, .string ⟨l.toArray⟩]) (by simp [results, Tryd.results28, go_sem]) rfl
    ⟨rfl, ((g.into ((Below.refl _ _).alloc (Nat.le_refl _) _) (by simp)).setCell (p := ⟨w.heap.size, 0, none⟩) (Nat.le_refl _) _).setCell (p := ⟨w.heap.size, 1, none⟩) (Nat.le_refl _) _⟩
end Go.Proofs.YtngahohheleeeaaDoor
