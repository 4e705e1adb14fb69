/- Package hll's add, added, Add, New, Of. -/
import Derived.Test.YtngahohheleeeaaDoorA2
import Derived.Lib.Hide
namespace Go.Proofs.YtngahohheleeeaaDoor
open Go.RowKit

/-- A slice of numbers, in memory below block B. -/
def U64s (B : Nat) (w : World) (v : Value) (zs : List Nat) : Prop :=
  (∀ z ∈ zs, z < 2 ^ 64) ∧ zs.length ≤ 9223372036854775807 ∧ ((∃ a, v = .slice a 0 0 ∧ zs = []) ∨
    ∃ a off cap : Nat, v = .slice (some ⟨a, off, none⟩) zs.length cap ∧ a < B ∧ zs.length ≤ cap ∧ ∀ i (h : i < zs.length), w.cell? ⟨a, off + i, none⟩ = some (.int .u64 (zs[i] : Nat)))
theorem U64s.below {B C : Nat} {w w' : World} {v : Value} {zs : List Nat} (h : U64s B w v zs) (hb : Below C w w') (hC : B ≤ C) : U64s B w' v zs := by
  obtain ⟨h1, h2, h3⟩ := h
  refine ⟨h1, h2, h3.imp id ?_⟩
  rintro ⟨a, off, cap, h4, h5, hc, h6⟩
  exact ⟨a, off, cap, h4, h5, hc, fun i hi => by rw [hb.cell (by show a < C; omega)]; exact h6 i hi⟩
theorem U64s.gr {B : Nat} {w : World} {v : Value} {zs : List Nat} (h : U64s B w v zs) (g : Gr w) (hB : B ≤ w.heap.size) : U64s B g.world v zs := h.below g.below hB
theorem U64s.mono {B C : Nat} {w : World} {v : Value} {zs : List Nat} (h : U64s B w v zs) (hC : B ≤ C) : U64s C w v zs := by
  obtain ⟨h1, h2, h3⟩ := h
  refine ⟨h1, h2, h3.imp id ?_⟩
  rintro ⟨a, off, cap, h4, h5, hc, h6⟩
  exact ⟨a, off, cap, h4, by omega, hc, h6⟩

def addReg (b : Nat) (l : List UInt8) (n : Nat) : List UInt8 := l.set (atN b n) (max (l.getD (atN b n) 0) (UInt8.ofNat (rankN b n)))
def addRegs (b : Nat) (l : List UInt8) (zs : List Nat) : List UInt8 := zs.foldl (addReg b) l
theorem addReg_length (b : Nat) (l : List UInt8) (n : Nat) : (addReg b l n).length = l.length := by simp [addReg]
theorem addRegs_length (b : Nat) (zs : List Nat) : ∀ l : List UInt8, (addRegs b l zs).length = l.length := by
  induction zs with
  | nil => intro l; rfl
  | cons z zs ih => intro l; show (addRegs b (addReg b l z) zs).length = _; rw [ih, addReg_length]
theorem addRegs_snoc (b : Nat) (l : List UInt8) (zs : List Nat) (k : Nat) (h : k < zs.length) : addRegs b l (zs.take (k + 1)) = addReg b (addRegs b l (zs.take k)) zs[k] := by
  unfold addRegs
  rw [List.take_succ_eq_append_getElem h, List.foldl_append]
  rfl

theorem place_nat (b n : Nat) (w : World) (h : isBitsB b = true) (hn : n < 2 ^ 64) :
    Calls Tryd.prog 18 #[.int .i64 b, .int .u64 n] w fun e w' => e = .returned (.tuple #[.int .i64 (atN b n), .int .i64 (rankN b n)]) ∧ Below w.heap.size w w' := by
  obtain ⟨h1, h2⟩ := isBits_bd h
  refine (place_go b n w h).mono fun e w' ⟨he, hb⟩ => ⟨?_, hb⟩
  rw [he, plAt_eq (by omega) hn, plRank_eq (by omega)]
theorem umax (x : UInt8) (r : Nat) (h : r < 256) : ((max x (UInt8.ofNat r)).toNat : Int) = max (x.toNat : Int) (r : Int) := by
  have h1 := x.toNat_lt
  have hr : (UInt8.ofNat r).toNat = r := by simp; omega
  have e : max x (UInt8.ofNat r) = if x ≤ UInt8.ofNat r then UInt8.ofNat r else x := rfl
  rw [e]
  by_cases h3 : x ≤ UInt8.ofNat r
  · rw [if_pos h3, hr]
    rw [UInt8.le_iff_toNat_le, hr] at h3
    omega
  · rw [if_neg h3]
    rw [UInt8.le_iff_toNat_le, hr] at h3
    omega
def AddPost (B : Nat) (w : World) (bw : Nat) (b : Int) (s : ByteArray) (l : List UInt8) (e : Ending) (w' : World) : Prop :=
  e = .returned (.tuple #[]) ∧ Below B w w' ∧ IsWork B w' bw b s l
theorem add_nil (a : Option Addr) (B bw : Nat) (b : Nat) (s : ByteArray) (l : List UInt8) (w : World) (h : IsWork B w bw b s l) :
    Calls Tryd.prog 32 #[.pointer (some ⟨bw, 0, none⟩), .slice a 0 0] w (AddPost B w bw b s l) := by
  go_enter Tryd.func32, Tryd.ntmps32
  go_wp2
  refine wp_loop_rounds 1 ?_
  rw [rounds_succ]
  go_wp2
  go_end0
  exact ⟨rfl, Below.refl _ _, h⟩
theorem add_some (B bw a off cap : Nat) (b : Nat) (s : ByteArray) (l : List UInt8) (zs : List Nat) (w : World) (h : IsWork B w bw b s l) (hb : isBitsB b = true) (hl : l.length = 2 ^ b) (hB : B ≤ w.heap.size)
    (hz : ∀ z ∈ zs, z < 2 ^ 64) (hlen : zs.length ≤ 9223372036854775807) (ha : a < B) (hc : ∀ i (h : i < zs.length), w.cell? ⟨a, off + i, none⟩ = some (.int .u64 (zs[i] : Nat))) :
    Calls Tryd.prog 32 #[.pointer (some ⟨bw, 0, none⟩), .slice (some ⟨a, off, none⟩) zs.length cap] w (AddPost B w bw b s (addRegs b l zs)) := by
  go_enter Tryd.func32, Tryd.ntmps32
  go_wp2
  go_loopw [5, 6, 7, 10] (fun _ _ _ i wr => ∃ k : Nat, k ≤ zs.length ∧ i = .int .i64 k ∧ Below B w wr ∧ IsWork B wr bw b s (addRegs b l (zs.take k)))
    (fun _ _ _ i _ => zs.length - (intOf i).toNat)
  case atStart => exact ⟨0, Nat.zero_le _, rfl, Below.refl _ _, by simpa [addRegs] using h⟩
  case round =>
    obtain ⟨k, hk, rfl, hBw, hW⟩ := hrel
    by_cases hlt : k < zs.length
    · have hcell := hc k hlt
      rw [← hBw.cell (p := ⟨a, off + k, none⟩) ha] at hcell
      have hz2 := hz zs[k] (List.getElem_mem hlt)
      obtain ⟨br, cp, h1, h2, h3, h4, h5, h6⟩ := hW
      have hw := h5
      have c0 := hw.cell 0 (by simp)
      have c2 := hw.cell 2 (by simp)
      have hltw := hw.lt
      have hltr := h6.lt
      simp only [List.getElem_cons_zero, List.getElem_cons_succ] at c0 c2
      obtain ⟨hb1, hb2⟩ := isBits_bd hb
      have hat := atN_lt (b := b) (n := zs[k]) (by omega) hz2
      have hlen2 : (addRegs b l (zs.take k)).length = 2 ^ b := by rw [addRegs_length, hl]
      go_wp2_with (first | (go_at_call 18; refine (Calls.gr0 (place_nat _ _ _ hb hz2)).mono ?_; rintro e w' ⟨rfl, g, rfl⟩))
      have hbd := rankN_bd (b := b) (n := zs[k]) (by omega)
      obtain ⟨L, hL⟩ : ∃ L, L = addRegs b l (zs.take k) := ⟨_, rfl⟩
      rw [← hL] at h4 c2 h5 h6 hlen2
      have HL := Lib.hid hL
      clear hL
      generalize hA : atN b zs[k] = at_ at hat
      generalize hR : rankN b zs[k] = rk at hbd
      have HA := Lib.hid hA
      have HR := Lib.hid hR
      clear hA hR
      have cr := h6.byte at_ (by omega)
      have x1 := (L.getD at_ 0).toNat_lt
      generalize hX : L.getD at_ 0 = x at cr x1
      have HX := Lib.hid hX
      clear hX
      have fr := h6.frozen at_ (by simp [Lib.byteCells]; omega)
      refine wp_region_gr_tail' 16 (by kernel_rfl) (by kernel_rfl) ?_
      simp only [List.take_succ_cons, List.take_zero, List.drop_succ_cons, List.drop_zero]
      repeat (go_big_quiet_step (fail))
      refine wpQuiet_nil ?_
      intro g2
      go_wp2
      have hL := HL.out
      have hstep : addRegs b l (zs.take (k + 1)) = L.set at_ (max x (UInt8.ofNat rk)) := by
        rw [addRegs_snoc _ _ _ _ hlt, ← hL]
        unfold addReg
        rw [HA.out, HR.out, HX.out]
      have hmax : ((max x (UInt8.ofNat rk)).toNat : Int) = max (x.toNat : Int) (rk : Int) := umax x rk (by omega)
      have hsz := hBw.size
      go_roundw
      case rel =>
        refine ⟨k + 1, by omega, by go_num, (g2.into hBw (by omega)).setCell (p := ⟨br, at_, none⟩) h1 _, br, cp, h1, h2, h3, by rw [hstep]; simpa using h4, ?_, ?_⟩
        · rw [hstep, List.length_set]; exact (h5.gr g2).setOther _ _ (by show bw ≠ br; omega)
        · rw [hstep, byteCells_set, hmax]
          exact (h6.gr g2).set at_ _
      case measure => simp [intOf]; omega
    · go_wp2
      go_end0
      rw [List.take_of_length_le (by omega)] at hW
      exact ⟨rfl, hBw, hW⟩
end Go.Proofs.YtngahohheleeeaaDoor
