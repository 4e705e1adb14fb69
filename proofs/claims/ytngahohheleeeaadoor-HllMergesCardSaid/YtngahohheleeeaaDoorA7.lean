/- Package hll's Lower. -/
import Derived.Test.YtngahohheleeeaaDoorHQ
namespace Go.Proofs.YtngahohheleeeaaDoor
open Go.RowKit

theorem lower_no1 (b : Int) (s : ByteArray) (w : World) (h : rightB b s.data.toList = false) :
    Calls Tryd.prog 15 #[.agg #[.int .i64 b, .string s]] w fun e w' => e = hllRes 0 ⟨#[]⟩ 70 ∧ Below w.heap.size w w' := by
  go_enter Tryd.func15, Tryd.ntmps15
  go_wp2_with (first
    | (go_at_call 25; (first | (with_reducible refine Calls.mono (Calls.gr (start_no _ _ _ h)) ?_) | (refine Calls.mono (Calls.gr0 (start_no _ _ _ h)) ?_)); rintro e w' ⟨rfl, g, rfl⟩; have hgl := g.le; (try simp only [World.size_alloc] at hgl); (try simp only [World.size_setCell] at hgl))
    | (go_at_call 21; (first | (with_reducible refine Calls.mono (Calls.gr (told_wrong _)) ?_) | (refine Calls.mono (Calls.gr0 (told_wrong _)) ?_)); rintro e w' ⟨rfl, g, rfl⟩; have hgl := g.le; (try simp only [World.size_alloc] at hgl); (try simp only [World.size_setCell] at hgl)))
  exact bodyPost_ret (v := .tuple #[.agg #[.int .i64 0, .string ⟨#[]⟩], .int .i64 70]) (by simp [results, Tryd.results15, go_sem]) rfl ⟨rfl, (by repeat (first | exact Below.refl _ _ | assumption | (refine Below.setCell ?_ (by (first | omega | (simp; done) | (simp; omega) | (simp at *; omega))) _) | (refine Below.alloc ?_ (by (first | omega | (simp; done) | (simp; omega) | (simp at *; omega))) _) | (refine Below.drew ?_) | (refine Gr.into _ ?_ (by (first | omega | (simp; done) | (simp; omega) | (simp at *; omega))))))⟩
theorem lower_no2 (s : ByteArray) (w : World) (h : rightB 3 s.data.toList = true) :
    Calls Tryd.prog 15 #[.agg #[.int .i64 3, .string s]] w fun e w' => e = hllRes 0 ⟨#[]⟩ 70 ∧ Below w.heap.size w w' := by
  go_enter Tryd.func15, Tryd.ntmps15
  go_wp2_with (first
    | (go_at_call 25; refine Calls.mono (start_yes _ _ _ h) ?_; rintro e w' ⟨bw, rfl, hb1, hw1⟩; obtain ⟨g, rfl⟩ := Gr.of hb1; have hgl := g.le; clear hb1 hw1; (try simp only [World.size_alloc] at hgl))
    | (go_at_call 21; (first | (with_reducible refine Calls.mono (Calls.gr (told_wrong _)) ?_) | (refine Calls.mono (Calls.gr0 (told_wrong _)) ?_)); rintro e w' ⟨rfl, g, rfl⟩; have hgl := g.le; (try simp only [World.size_alloc] at hgl); (try simp only [World.size_setCell] at hgl)))
  exact bodyPost_ret (v := .tuple #[.agg #[.int .i64 0, .string ⟨#[]⟩], .int .i64 70]) (by simp [results, Tryd.results15, go_sem]) rfl ⟨rfl, (by repeat (first | exact Below.refl _ _ | assumption | (refine Below.setCell ?_ (by (first | omega | (simp; done) | (simp; omega) | (simp at *; omega))) _) | (refine Below.alloc ?_ (by (first | omega | (simp; done) | (simp; omega) | (simp at *; omega))) _) | (refine Below.drew ?_) | (refine Gr.into _ ?_ (by (first | omega | (simp; done) | (simp; omega) | (simp at *; omega))))))⟩
/-- A lowered register. -/
def low8 (a b : UInt8) : UInt8 := if 0 < a.toNat then a + 1 else if 0 < b.toNat then 1 else 0
def lowerL (l : List UInt8) : List UInt8 := (List.range (l.length / 2)).map fun i => low8 (l.getD (2 * i) 0) (l.getD (2 * i + 1) 0)
theorem low8_eq (a b : UInt8) (h : a.toNat ≤ 63) : lowB (a.toNat : Nat) (b.toNat : Nat) = ((low8 a b).toNat : Nat) := by
  unfold lowB low8
  by_cases h1 : 0 < a.toNat
  · rw [if_pos (by omega), if_pos h1]
    have : (a + 1).toNat = a.toNat + 1 := by rw [UInt8.toNat_add]; simp; omega
    omega
  · rw [if_neg (by omega), if_neg h1]
    by_cases h2 : 0 < b.toNat
    · rw [if_pos h2]; simp; omega
    · rw [if_neg h2]; simp; omega
theorem lowerL_length (l : List UInt8) : (lowerL l).length = l.length / 2 := by simp [lowerL]
/-- The registers when k have been lowered. -/
def lowTo (l : List UInt8) (k : Nat) : List UInt8 := (lowerL l).take k ++ l.drop k
theorem lowTo_length (l : List UInt8) (k : Nat) (h : k ≤ l.length / 2) : (lowTo l k).length = l.length := by simp [lowTo, lowerL_length]; omega
theorem lowTo_succ (l : List UInt8) (k : Nat) (h : k < l.length / 2) : lowTo l (k + 1) = (lowTo l k).set k (low8 (l.getD (2 * k) 0) (l.getD (2 * k + 1) 0)) := by
  have hk : k < (lowerL l).length := by rw [lowerL_length]; exact h
  have e : (lowerL l)[k] = low8 (l.getD (2 * k) 0) (l.getD (2 * k + 1) 0) := by simp [lowerL]
  have e2 : l.drop k = l[k]'(by omega) :: l.drop (k + 1) := List.drop_eq_getElem_cons (by omega)
  unfold lowTo
  rw [List.take_succ_eq_append_getElem hk, e, e2, List.append_assoc]
  have hl : ((lowerL l).take k).length = k := by simp; omega
  rw [List.set_append_right _ _ (by omega), hl, Nat.sub_self]
  rfl
theorem lowTo_end (l : List UInt8) : (lowTo l (l.length / 2)).take (l.length / 2) = lowerL l := by
  unfold lowTo
  rw [← lowerL_length, List.take_length]
  simp
set_option maxRecDepth 100000 in
theorem lower_yes (b : Nat) (s : ByteArray) (w : World) (h : rightB b s.data.toList = true) (h4 : 4 ≤ b) :
    Calls Tryd.prog 15 #[.agg #[.int .i64 b, .string s]] w fun e w' => e = hllRes (b - 1 : Nat) ⟨(lowerL s.data.toList).toArray⟩ 0 ∧ Below w.heap.size w w' := by
  obtain ⟨b1, b2⟩ := isBits_bd (rightB_bits h)
  have hne : ((b : Int) == 3) = false := by simp; omega
  go_enter Tryd.func15, Tryd.ntmps15
  go_wp2_with (first
    | (go_at_call 25; refine Calls.mono (start_yes _ _ _ h) ?_; rintro e w' ⟨bw, rfl, hb1, hw1⟩; obtain ⟨g, rfl⟩ := Gr.of hb1; have hgl := g.le; clear hb1; (try simp only [World.size_alloc] at hgl); (try simp only [World.size_alloc] at hw1); obtain ⟨br, cap, i1, i2, i3, i4, i5, i6⟩ := hw1; obtain ⟨wc0, wc1, wc2, wf0, wf1, wf2, wl⟩ := i5.three)
    | (go_at_call 21; (first | (with_reducible refine Calls.mono (Calls.gr (told_wrong _)) ?_) | (refine Calls.mono (Calls.gr0 (told_wrong _)) ?_)); rintro e w' ⟨rfl, g, rfl⟩; have hgl := g.le; (try simp only [World.size_alloc] at hgl); (try simp only [World.size_setCell] at hgl)))
  have hN : s.data.toList.length = 2 * 2 ^ (b - 1) := by
    have := rightB_len h
    rw [this, ← Nat.pow_succ']
    congr 1
    omega
  have hNb : 2 ^ (b - 1) ≤ 256 := pow_small (by omega)
  obtain ⟨N, hNN⟩ : ∃ N, N = 2 ^ (b - 1) := ⟨_, rfl⟩
  rw [← hNN] at hN hNb
  clear hNN
  have hbw := i5.lt
  have hbr := i6.lt
  refine wp_named (fun W hW => ?_)
  have hBW : Below w.heap.size w W := by rw [hW]; exact (by repeat (first | exact Below.refl _ _ | assumption | (refine Below.setCell ?_ (by (first | omega | (simp; done) | (simp; omega) | (simp at *; omega))) _) | (refine Below.alloc ?_ (by (first | omega | (simp; done) | (simp; omega) | (simp at *; omega))) _) | (refine Below.drew ?_) | (refine Gr.into _ ?_ (by (first | omega | (simp; done) | (simp; omega) | (simp at *; omega))))))
  have x : RowAt W (w.heap.size) 26 [.int .i64 b, .string s] := by rw [hW]; exact (by repeat (first | assumption | exact RowAt.new_at _ _ _ _ (by (first | omega | (simp; done) | (simp; omega) | (simp at *; omega))) | (refine RowAt.alloc ?_ _) | (refine RowAt.gr ?_ _) | (refine RowAt.setOther ?_ _ _ (by (first | omega | (simp; done) | (simp; omega) | (simp at *; omega)))) | (refine RowAt.drew ?_)))
  have r : RowAt W (w.heap.size + 1) 26 [.int .i64 0, .string ⟨#[]⟩] := by rw [hW]; exact (by repeat (first | assumption | exact RowAt.new_at _ _ _ _ (by (first | omega | (simp; done) | (simp; omega) | (simp at *; omega))) | (refine RowAt.alloc ?_ _) | (refine RowAt.gr ?_ _) | (refine RowAt.setOther ?_ _ _ (by (first | omega | (simp; done) | (simp; omega) | (simp at *; omega)))) | (refine RowAt.drew ?_)))
  have wk : RowAt W bw 64 [.int .i64 (b - 1), .string s, .slice (some ⟨br, 0, none⟩) (2 * N : Nat) cap] := by rw [hW, ← hN]; exact i5.set 0 _
  have wb : RowAt W br 5 (Lib.byteCells s.data.toList) := by rw [hW]; exact i6.setOther _ _ (by show br ≠ bw; omega)
  clear hW
  obtain ⟨xc0, xc1, xf0, xf1, xl⟩ := x.two
  obtain ⟨rc0, rc1, rf0, rf1, rl⟩ := r.two
  clear i5 i6 wc0 wc1 wc2 wf0 wf1 wf2 wl
  rw [hN] at i4
  generalize g.world.heap.size = gs at *
  clear g
  obtain ⟨wkc0, wkc1, wkc2, wkf0, wkf1, wkf2, wkl⟩ := wk.three
  refine wp_region_gr_tail 14 (by kernel_rfl) (by kernel_rfl) ?_
  simp only [List.take_succ_cons, List.take_zero, List.drop_succ_cons, List.drop_zero]
  repeat (go_big_quiet_step (first | fail))
  refine wpQuiet_nil ?_
  intro g
  go_wp2
  refine wp_named (fun W hW => ?_)
  have hBW : Below w.heap.size w W := by rw [hW]; exact (by repeat (first | exact Below.refl _ _ | assumption | (refine Below.setCell ?_ (by (first | omega | (simp; done) | (simp; omega) | (simp at *; omega))) _) | (refine Below.alloc ?_ (by (first | omega | (simp; done) | (simp; omega) | (simp at *; omega))) _) | (refine Below.drew ?_) | (refine Gr.into _ ?_ (by (first | omega | (simp; done) | (simp; omega) | (simp at *; omega))))))
  have x : RowAt W (w.heap.size) 26 [.int .i64 b, .string s] := by rw [hW]; exact (by repeat (first | assumption | exact RowAt.new_at _ _ _ _ (by (first | omega | (simp; done) | (simp; omega) | (simp at *; omega))) | (refine RowAt.alloc ?_ _) | (refine RowAt.gr ?_ _) | (refine RowAt.setOther ?_ _ _ (by (first | omega | (simp; done) | (simp; omega) | (simp at *; omega)))) | (refine RowAt.drew ?_)))
  have r : RowAt W (w.heap.size + 1) 26 [.int .i64 0, .string ⟨#[]⟩] := by rw [hW]; exact (by repeat (first | assumption | exact RowAt.new_at _ _ _ _ (by (first | omega | (simp; done) | (simp; omega) | (simp at *; omega))) | (refine RowAt.alloc ?_ _) | (refine RowAt.gr ?_ _) | (refine RowAt.setOther ?_ _ _ (by (first | omega | (simp; done) | (simp; omega) | (simp at *; omega)))) | (refine RowAt.drew ?_)))
  have wk2 : RowAt W bw 64 [.int .i64 (b - 1), .string s, .slice (some ⟨br, 0, none⟩) N cap] := by rw [hW]; exact (wk.gr g).set 2 _
  have wb2 : RowAt W br 5 (Lib.byteCells (lowTo s.data.toList 0)) := by rw [hW]; exact (wb.gr g).setOther _ _ (by show br ≠ bw; omega)
  clear hW
  obtain ⟨xc0, xc1, xf0, xf1, xl⟩ := x.two
  obtain ⟨rc0, rc1, rf0, rf1, rl⟩ := r.two
  have hS : ∀ c ∈ s.data.toList, c.toNat ≤ 61 := fun c hc => by have := ((rightB_iff b _).1 h).2.2.2 c hc; omega
  have hsz : s.size = 2 * N := by simpa using hN
  go_loopw [6, 51] (fun _ i wr => ∃ k : Nat, k ≤ N ∧ i = .int .i64 k ∧ Below w.heap.size w wr ∧ RowAt wr w.heap.size 26 [.int .i64 b, .string s] ∧ RowAt wr (w.heap.size + 1) 26 [.int .i64 0, .string ⟨#[]⟩] ∧
      RowAt wr bw 64 [.int .i64 (b - 1), .string s, .slice (some ⟨br, 0, none⟩) N cap] ∧ RowAt wr br 5 (Lib.byteCells (lowTo s.data.toList k)))
    (fun _ i _ => N - (intOf i).toNat)
  case atStart => exact ⟨0, Nat.zero_le _, rfl, hBW, x, r, wk2, wb2⟩
  case round =>
    obtain ⟨k, hk, rfl, hB, rx, rr, rw_, rb⟩ := hrel
    obtain ⟨xc0, xc1, xf0, xf1, xl⟩ := rx.two
    obtain ⟨wkc0, wkc1, wkc2, wkf0, wkf1, wkf2, wkl⟩ := rw_.three
    by_cases hlt : k < N
    · have e1 := byte_getD s (2 * k) (by omega)
      have e2 := byte_getD s (2 * k + 1) (by omega)
      have m1 := hS _ (byte_mem s (2 * k) (by omega))
      have m2 := s[2 * k + 1].toNat_lt
      have i7 := index_at (P := Tryd.prog) 9 s .i64 (2 * (k : Int)) (2 * k) rfl (by omega) (by omega)
      have i8 := index_at (P := Tryd.prog) 9 s .i64 (2 * (k : Int) + 1) (2 * k + 1) rfl (by omega) (by omega)
      have hbl := rb.lt
      have hfr := rb.frozen k (by simp [Lib.byteCells, lowTo, lowerL_length]; omega)
      have hcr := rb.byte k (by simp [lowTo, lowerL_length]; omega)
      go_wp2
      refine wp_region_gr_tail 18 (by kernel_rfl) (by kernel_rfl) ?_
      simp only [List.take_succ_cons, List.take_zero, List.drop_succ_cons, List.drop_zero]
      repeat (go_big_quiet_step (first | (go_at_call 30; exact Calls.gr (below_self (lowered_any _ _ _ (by omega) (by omega) (by omega) (by omega))))))
      refine wpQuiet_nil ?_
      intro g2
      go_wp2
      have hst : Lib.byteCells (lowTo s.data.toList (k + 1)) = (Lib.byteCells (lowTo s.data.toList k)).set k (.int .u8 (lowB (s[2 * k].toNat : Nat) (s[2 * k + 1].toNat : Nat))) := by
        rw [lowTo_succ _ _ (by omega), byteCells_set, e1, e2, low8_eq _ _ (by omega)]
      go_roundw
      case rel =>
        exact ⟨k + 1, by omega, by go_num, (g2.into hB hB.size).setCell (p := ⟨br, k, none⟩) (by show _ ≤ br; omega) _, (rx.gr g2).setOther _ _ (by show _ ≠ br; omega), (rr.gr g2).setOther _ _ (by show _ ≠ br; omega),
          (rw_.gr g2).setOther _ _ (by show _ ≠ br; omega), by rw [hst]; exact (rb.gr g2).set k _⟩
      case measure => simp [intOf]; omega
    · obtain rfl : k = N := by omega
      have hlo : (lowTo s.data.toList k).take k = lowerL s.data.toList := by have := lowTo_end s.data.toList; rwa [hN, show 2 * k / 2 = k by omega] at this
      have hll : (lowerL s.data.toList).length = k := by rw [lowerL_length, hN]; omega
      have rb' := rb.take k
      rw [show (Lib.byteCells (lowTo s.data.toList k)).take k = Lib.byteCells (lowerL s.data.toList) by rw [← hlo]; simp [Lib.byteCells]] at rb'
      have hw : IsWork (w.heap.size + 1 + 1) wr bw ((b - 1 : Nat) : Int) s (lowerL s.data.toList) := by
        refine ⟨br, cap, i1, i2, i3, by omega, ?_, rb'⟩
        rw [hll, show ((b - 1 : Nat) : Int) = (b : Int) - 1 by omega]
        exact rw_
      clear rw_ wkc0 wkc1 wkc2 wkf0 wkf1 wkf2 wkl hlo
      obtain ⟨rc0, rc1, rf0, rf1, rl⟩ := rr.two
      go_wp2_with (first | (go_at_call 28; (first | (with_reducible refine Calls.mono (Calls.gr (end_any _ _ _ _ _ _ hw)) ?_) | (refine Calls.mono (Calls.gr0 (end_any _ _ _ _ _ _ hw)) ?_)); rintro e w' ⟨rfl, g, rfl⟩; have hgl := g.le; (try simp only [World.size_alloc] at hgl); (try simp only [World.size_setCell] at hgl)))
      exact bodyPost_ret (v := .tuple #[.agg #[.int .i64 (b - 1 : Nat), .string ⟨(lowerL s.data.toList).toArray⟩], .int .i64 0]) (by simp [results, Tryd.results15, go_sem, rc0, rc1, rl]) rfl ⟨rfl, (by repeat (first | exact Below.refl _ _ | assumption | (refine Below.setCell ?_ (by (first | omega | (simp; done) | (simp; omega) | (simp at *; omega))) _) | (refine Below.alloc ?_ (by (first | omega | (simp; done) | (simp; omega) | (simp at *; omega))) _) | (refine Below.drew ?_) | (refine Gr.into _ ?_ (by (first | omega | (simp; done) | (simp; omega) | (simp at *; omega))))))⟩
end Go.Proofs.YtngahohheleeeaaDoor
