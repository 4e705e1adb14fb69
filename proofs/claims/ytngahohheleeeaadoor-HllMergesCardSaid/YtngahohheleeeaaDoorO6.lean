/- The walk of the reference's Lower. -/
import Derived.Test.YtngahohheleeeaaDoorO5
import Derived.Test.YtngahohheleeeaaDoorA7
namespace Go.Proofs.YtngahohheleeeaaDoor
open Go.RowKit

theorem rlower_no1 (b : Int) (s : ByteArray) (w : World) (h : rightB b s.data.toList = false) :
    Calls Tryd.prog 16 #[.agg #[.int .i64 b, .string s]] w fun e w' => e = hllRes 0 ⟨#[]⟩ 70 ∧ Below w.heap.size w w' := by
  have hR : ∀ w, Calls Tryd.prog 29 #[.agg #[.int .i64 b, .string s]] w fun e w' => e = .returned (.bool false) ∧ Below w.heap.size w w' := fun w => h ▸ rright_any b s w
  go_enter Tryd.func16, Tryd.ntmps16
  go_wp2_with (first | (go_at_call 29; (first | (with_reducible refine Calls.mono (Calls.gr (hR _)) ?_) | (refine Calls.mono (Calls.gr0 (hR _)) ?_)); rintro e w' ⟨rfl, g, rfl⟩; have hgl := g.le; (try simp only [World.size_alloc] at hgl); (try simp only [World.size_setCell] at hgl)))
  exact bodyPost_ret (v := .tuple #[.agg #[.int .i64 0, .string ⟨#[]⟩], .int .i64 70]) (by simp [results, Tryd.results16, go_sem]) rfl ⟨rfl, (by repeat (first | exact Below.refl _ _ | assumption | (refine Below.setCell ?_ (by (first | omega | (simp; done) | (simp; omega) | (simp at *; omega))) _) | (refine Below.alloc ?_ (by (first | omega | (simp; done) | (simp; omega) | (simp at *; omega))) _) | (refine Below.drew ?_) | (refine Gr.into _ ?_ (by (first | omega | (simp; done) | (simp; omega) | (simp at *; omega))))))⟩

theorem rlower_no2 (s : ByteArray) (w : World) (h : rightB 3 s.data.toList = true) :
    Calls Tryd.prog 16 #[.agg #[.int .i64 3, .string s]] w fun e w' => e = hllRes 0 ⟨#[]⟩ 70 ∧ Below w.heap.size w w' := by
  have hR : ∀ w, Calls Tryd.prog 29 #[.agg #[.int .i64 3, .string s]] w fun e w' => e = .returned (.bool true) ∧ Below w.heap.size w w' := fun w => h ▸ rright_any 3 s w
  go_enter Tryd.func16, Tryd.ntmps16
  go_wp2_with (first | (go_at_call 29; (first | (with_reducible refine Calls.mono (Calls.gr (hR _)) ?_) | (refine Calls.mono (Calls.gr0 (hR _)) ?_)); rintro e w' ⟨rfl, g, rfl⟩; have hgl := g.le; (try simp only [World.size_alloc] at hgl); (try simp only [World.size_setCell] at hgl)))
  exact bodyPost_ret (v := .tuple #[.agg #[.int .i64 0, .string ⟨#[]⟩], .int .i64 70]) (by simp [results, Tryd.results16, go_sem]) rfl ⟨rfl, (by repeat (first | exact Below.refl _ _ | assumption | (refine Below.setCell ?_ (by (first | omega | (simp; done) | (simp; omega) | (simp at *; omega))) _) | (refine Below.alloc ?_ (by (first | omega | (simp; done) | (simp; omega) | (simp at *; omega))) _) | (refine Below.drew ?_) | (refine Gr.into _ ?_ (by (first | omega | (simp; done) | (simp; omega) | (simp at *; omega))))))⟩

/-- The first k registers of the lower ones. -/
def lowFill (l : List UInt8) (N k : Nat) : List UInt8 := (lowerL l).take k ++ List.replicate (N - k) 0
theorem lowFill_length (l : List UInt8) (N k : Nat) (h : l.length = 2 * N) (hk : k ≤ N) : (lowFill l N k).length = N := by
  have := lowerL_length l
  simp [lowFill]; omega
theorem lowFill_zero (l : List UInt8) (N : Nat) : lowFill l N 0 = List.replicate N 0 := by simp [lowFill]
theorem lowFill_end (l : List UInt8) (N : Nat) (h : l.length = 2 * N) : lowFill l N N = lowerL l := by
  have := lowerL_length l
  simp [lowFill, List.take_of_length_le (show (lowerL l).length ≤ N by omega)]
theorem lowFill_at (l : List UInt8) (N k : Nat) (h : l.length = 2 * N) (hk : k < N) : (lowFill l N k).getD k 0 = 0 := by
  have := lowerL_length l
  unfold lowFill List.getD
  rw [List.getElem?_append_right (by simp; omega)]
  simp only [List.length_take]
  rw [List.getElem?_replicate]
  split <;> rfl
theorem lowFill_succ (l : List UInt8) (N k : Nat) (h : l.length = 2 * N) (hk : k < N) : lowFill l N (k + 1) = (lowFill l N k).set k (low8 (l.getD (2 * k) 0) (l.getD (2 * k + 1) 0)) := by
  have hl := lowerL_length l
  have e : (lowerL l)[k]? = some (low8 (l.getD (2 * k) 0) (l.getD (2 * k + 1) 0)) := by
    unfold lowerL
    rw [List.getElem?_map, List.getElem?_range (by omega)]
    rfl
  unfold lowFill
  apply List.ext_getElem?
  intro i
  rw [List.getElem?_set]
  by_cases hi : k = i
  · subst hi
    rw [if_pos rfl, if_pos (by simp; omega), List.getElem?_append_left (by simp; omega), List.getElem?_take_of_lt (by omega), e]
  · rw [if_neg hi]
    by_cases h1 : i < k
    · rw [List.getElem?_append_left (by simp; omega), List.getElem?_append_left (by simp; omega), List.getElem?_take_of_lt (by omega), List.getElem?_take_of_lt h1]
    · rw [List.getElem?_append_right (by simp; omega), List.getElem?_append_right (by simp; omega), List.getElem?_replicate, List.getElem?_replicate]
      simp only [List.length_take, hl]
      by_cases h2 : i < N
      · rw [if_pos (by omega), if_pos (by omega)]
      · rw [if_neg (by omega), if_neg (by omega)]
theorem made_zeros (c : Nat) : (madeCells #[Value.int .u8 0] c).toList = Lib.byteCells (List.replicate c 0) := by
  refine List.ext_getElem (by simp [madeCells, Lib.byteCells]) fun i h1 h2 => ?_
  simp [madeCells, Lib.byteCells, Nat.mod_one]

theorem set_same (l : List UInt8) (k : Nat) (x : UInt8) (h : k < l.length) (e : l.getD k 0 = x) : l.set k x = l := by
  apply List.ext_getElem?
  intro i
  rw [List.getElem?_set]
  by_cases hi : k = i
  · subst hi
    rw [if_pos rfl, if_pos h, ← e]
    simp [List.getD, h]
  · rw [if_neg hi]
theorem low8_pos {a c : UInt8} (h : 0 < a.toNat) (ha : a.toNat ≤ 61) : ((low8 a c).toNat : Int) = (a.toNat : Int) + 1 := by
  rw [← low8_eq a c (by omega)]
  unfold lowB
  rw [if_pos (by omega)]
theorem low8_one {a c : UInt8} (h : ¬ 0 < a.toNat) (h2 : 0 < c.toNat) : ((low8 a c).toNat : Int) = 1 := by
  unfold low8
  rw [if_neg h, if_pos h2]
  rfl
theorem low8_zero {a c : UInt8} (h : ¬ 0 < a.toNat) (h2 : ¬ 0 < c.toNat) : low8 a c = 0 := by
  unfold low8
  rw [if_neg h, if_neg h2]
theorem u8_info : ∃ i : TypeInfo, Tryd.prog.info? 5 = some i ∧ i.zero = some (.int .u8 0) ∧ i.bytes = 1 ∧ i.size = 1 :=
  ⟨(Tryd.prog.info? 5).get (by kernel_rfl), (Option.some_get _).symm, by kernel_rfl, by kernel_rfl, by kernel_rfl⟩

set_option maxRecDepth 100000 in
set_option maxHeartbeats 1000000 in
theorem rlower_yes (b : Nat) (s : ByteArray) (w : World) (h : rightB b s.data.toList = true) (h4 : 4 ≤ b) :
    Calls Tryd.prog 16 #[.agg #[.int .i64 b, .string s]] w fun e w' => e = hllRes (b - 1 : Nat) ⟨(lowerL s.data.toList).toArray⟩ 0 ∧ Below w.heap.size w w' := by
  have hR : ∀ w, Calls Tryd.prog 29 #[.agg #[.int .i64 b, .string s]] w fun e w' => e = .returned (.bool true) ∧ Below w.heap.size w w' := fun w => h ▸ rright_any b s w
  obtain ⟨b1, b2⟩ := isBits_bd (rightB_bits h)
  have hne : ((b : Int) == 3) = false := by simp; omega
  obtain ⟨N, hNN⟩ : ∃ N, N = 2 ^ (b - 1) := ⟨_, rfl⟩
  have hN : s.data.toList.length = 2 * N := by
    have := rightB_len h
    rw [this, hNN, ← Nat.pow_succ']
    congr 1
    omega
  have hNb : N ≤ 256 := by rw [hNN]; exact pow_small (by omega)
  have hsz : s.size = 2 * N := by simpa using hN
  have hS : ∀ c ∈ s.data.toList, c.toNat ≤ 61 := fun c hc => by have := ((rightB_iff b _).1 h).2.2.2 c hc; omega
  have hmk : ∀ w : World, Sem.run Tryd.prog (Instr.makeSlice 62 (.int .i64 N) (.int .i64 N)) w = .ok (.slice (some ⟨w.heap.size, 0, none⟩) N N) (w.alloc (.cells (madeCells #[.int .u8 0] N) 5)) := fun w => by
    obtain ⟨i, hi1, hi2, hi3, hi4⟩ := u8_info
    have := run_make (P := Tryd.prog) w 62 5 i (.int .u8 0) Tryd.underlying62 hi1 hi2 .i64 .i64 N N (by omega) (by omega) (by rw [hi3]; omega) (by omega)
    rw [this, hi4]
    simp only [Value.cells, Int.toNat_natCast]
    exact congrArg (fun n => Result.ok (Value.slice (some ⟨w.heap.size, 0, none⟩) N N) (w.alloc (Obj.cells (madeCells #[Value.int .u8 0] n) 5))) (Nat.mul_one N)
  have hdv : wrap64 ((s.size : Int) / 2) = (N : Int) := by unfold wrap64; omega
  obtain ⟨M, hM0⟩ : ∃ M, M = lowerL s.data.toList := ⟨_, rfl⟩
  rw [← hM0]
  have hM := Lib.hid hM0
  have HS := Lib.hid hsz
  have HN := Lib.hid hN
  have HX := Lib.hid hS
  clear hM0 hNN hsz hN hS
  go_enter Tryd.func16, Tryd.ntmps16
  go_wp2_with fail
  with_reducible refine Calls.mono (Calls.gr0 (hR _)) ?_
  rintro e w' ⟨rfl, g, rfl⟩
  have hgl := g.le
  try simp only [World.size_alloc] at hgl
  try simp only [World.size_setCell] at hgl
  go_wp2_with fail
  have hgs : w.heap.size + 1 + 1 ≤ g.world.heap.size := by have := g.le; simpa using this
  refine wp_named (fun W hW => ?_)
  have hBW : Below w.heap.size w W := by rw [hW]; exact (by repeat (first | exact Below.refl _ _ | assumption | (refine Below.setCell ?_ (by (first | omega | (simp; done) | (simp; omega) | (simp at *; omega))) _) | (refine Below.alloc ?_ (by (first | omega | (simp; done) | (simp; omega) | (simp at *; omega))) _) | (refine Below.drew ?_) | (refine Gr.into _ ?_ (by (first | omega | (simp; done) | (simp; omega) | (simp at *; omega))))))
  have x : RowAt W (w.heap.size) 26 [.int .i64 b, .string s] := by rw [hW]; exact (by repeat (first | assumption | exact RowAt.new_at _ _ _ _ (by (first | omega | (simp; done) | (simp; omega) | (simp at *; omega))) | (refine RowAt.alloc ?_ _) | (refine RowAt.gr ?_ _) | (refine RowAt.setOther ?_ _ _ (by (first | omega | (simp; done) | (simp; omega) | (simp at *; omega)))) | (refine RowAt.drew ?_)))
  have r : RowAt W (w.heap.size + 1) 26 [.int .i64 0, .string ⟨#[]⟩] := by rw [hW]; exact (by repeat (first | assumption | exact RowAt.new_at _ _ _ _ (by (first | omega | (simp; done) | (simp; omega) | (simp at *; omega))) | (refine RowAt.alloc ?_ _) | (refine RowAt.gr ?_ _) | (refine RowAt.setOther ?_ _ _ (by (first | omega | (simp; done) | (simp; omega) | (simp at *; omega)))) | (refine RowAt.drew ?_)))
  have b2 : RowAt W g.world.heap.size 5 (Lib.byteCells (lowFill s.data.toList N 0)) := by rw [hW, lowFill_zero, ← made_zeros]; exact RowAt.of_new _ _ _
  clear hW
  obtain ⟨xc0, xc1, xf0, xf1, xl⟩ := x.two
  obtain ⟨rc0, rc1, rf0, rf1, rl⟩ := r.two
  generalize g.world.heap.size = bb at *
  clear g xc0 xc1 xf0 xf1 xl rc0 rc1 rf0 rf1 rl
  go_loopw [5] (fun i wr => ∃ k : Nat, k ≤ N ∧ i = .int .i64 k ∧ Below w.heap.size w wr ∧ RowAt wr w.heap.size 26 [.int .i64 b, .string s] ∧
      RowAt wr (w.heap.size + 1) 26 [.int .i64 0, .string ⟨#[]⟩] ∧ RowAt wr bb 5 (Lib.byteCells (lowFill s.data.toList N k)))
    (fun i _ => N - (intOf i).toNat)
  case atStart => exact ⟨0, Nat.zero_le _, rfl, hBW, x, r, b2⟩
  case round =>
    obtain ⟨k, hk, rfl, hB, rx, rr, rb⟩ := hrel
    obtain ⟨xc0, xc1, xf0, xf1, xl⟩ := rx.two
    obtain ⟨rc0, rc1, rf0, rf1, rl⟩ := rr.two
    by_cases hlk : k < N
    · have hsz := HS.out
      have hk1 : 2 * k < s.size := by omega
      have hk2 : 2 * k + 1 < s.size := by omega
      have e1 := byte_getD s (2 * k) hk1
      have e2 := byte_getD s (2 * k + 1) hk2
      have m1 := HX.out _ (byte_mem s (2 * k) hk1)
      have m2 := s[2 * k + 1].toNat_lt
      have i7 := index_at (P := Tryd.prog) 9 s .i64 (2 * (k : Int)) (2 * k) rfl (by omega) (by omega)
      have i8 := index_at (P := Tryd.prog) 9 s .i64 (2 * (k : Int) + 1) (2 * k + 1) rfl (by omega) (by omega)
      have hll := lowFill_length s.data.toList N k HN.out hk
      have hfr := rb.frozen k (by simp [Lib.byteCells]; omega)
      have hcr := rb.byte k (by omega)
      rw [lowFill_at _ _ _ HN.out hlk] at hcr
      have hcr0 : wr.cell? ⟨bb, k, none⟩ = some (.int .u8 0) := hcr
      have hms := lowFill_succ s.data.toList N k HN.out hlk
      rw [e1, e2] at hms
      have hrow := congrArg Lib.byteCells hms
      rw [byteCells_set] at hrow
      have hsame : low8 s[2 * k] s[2 * k + 1] = 0 → lowFill s.data.toList N (k + 1) = lowFill s.data.toList N k := fun e => by
        rw [hms, e]
        exact set_same _ _ _ (by omega) (lowFill_at _ _ _ HN.out hlk)
      have HR := Lib.hid hrow
      have HZ := Lib.hid hsame
      have hbl := rb.lt
      clear e1 e2 hll hsz hcr hms hrow hsame
      by_cases h1 : 0 < s[2 * k].toNat
      · have hv := low8_pos (c := s[2 * k + 1]) h1 m1
        have HV := Lib.hid hv
        clear hv
        by_cases h2 : 0 < s[2 * k + 1].toNat
        · go_wp2
          refine ⟨⟨k + 1, by omega, by go_num, (by repeat (first | exact Below.refl _ _ | assumption | (refine Below.setCell ?_ (by (first | omega | (simp; done) | (simp; omega) | (simp at *; omega))) _) | (refine Below.alloc ?_ (by (first | omega | (simp; done) | (simp; omega) | (simp at *; omega))) _) | (refine Below.drew ?_) | (refine Gr.into _ ?_ (by (first | omega | (simp; done) | (simp; omega) | (simp at *; omega)))))), (by repeat (first | assumption | exact RowAt.new_at _ _ _ _ (by (first | omega | (simp; done) | (simp; omega) | (simp at *; omega))) | (refine RowAt.alloc ?_ _) | (refine RowAt.gr ?_ _) | (refine RowAt.setOther ?_ _ _ (by (first | omega | (simp; done) | (simp; omega) | (simp at *; omega)))) | (refine RowAt.drew ?_))), (by repeat (first | assumption | exact RowAt.new_at _ _ _ _ (by (first | omega | (simp; done) | (simp; omega) | (simp at *; omega))) | (refine RowAt.alloc ?_ _) | (refine RowAt.gr ?_ _) | (refine RowAt.setOther ?_ _ _ (by (first | omega | (simp; done) | (simp; omega) | (simp at *; omega)))) | (refine RowAt.drew ?_))), ?_⟩, by simp [intOf]; omega⟩
          rw [HR.out, HV.out]
          have := (rb.set k (.int .u8 ((s[2 * k].toNat : Int) + 1))).set k (.int .u8 (max ((s[2 * k].toNat : Int) + 1) 1))
          rw [List.set_set, show max ((s[2 * k].toNat : Int) + 1) 1 = (s[2 * k].toNat : Int) + 1 by omega] at this
          rw [show max ((s[2 * k].toNat : Int) + 1) 1 = (s[2 * k].toNat : Int) + 1 by omega]
          exact this
        · go_wp2
          refine ⟨⟨k + 1, by omega, by go_num, (by repeat (first | exact Below.refl _ _ | assumption | (refine Below.setCell ?_ (by (first | omega | (simp; done) | (simp; omega) | (simp at *; omega))) _) | (refine Below.alloc ?_ (by (first | omega | (simp; done) | (simp; omega) | (simp at *; omega))) _) | (refine Below.drew ?_) | (refine Gr.into _ ?_ (by (first | omega | (simp; done) | (simp; omega) | (simp at *; omega)))))), (by repeat (first | assumption | exact RowAt.new_at _ _ _ _ (by (first | omega | (simp; done) | (simp; omega) | (simp at *; omega))) | (refine RowAt.alloc ?_ _) | (refine RowAt.gr ?_ _) | (refine RowAt.setOther ?_ _ _ (by (first | omega | (simp; done) | (simp; omega) | (simp at *; omega)))) | (refine RowAt.drew ?_))), (by repeat (first | assumption | exact RowAt.new_at _ _ _ _ (by (first | omega | (simp; done) | (simp; omega) | (simp at *; omega))) | (refine RowAt.alloc ?_ _) | (refine RowAt.gr ?_ _) | (refine RowAt.setOther ?_ _ _ (by (first | omega | (simp; done) | (simp; omega) | (simp at *; omega)))) | (refine RowAt.drew ?_))), ?_⟩, by simp [intOf]; omega⟩
          rw [HR.out, HV.out]
          exact rb.set k _
      · by_cases h2 : 0 < s[2 * k + 1].toNat
        · have HV := Lib.hid (low8_one h1 h2)
          go_wp2
          refine ⟨⟨k + 1, by omega, by go_num, (by repeat (first | exact Below.refl _ _ | assumption | (refine Below.setCell ?_ (by (first | omega | (simp; done) | (simp; omega) | (simp at *; omega))) _) | (refine Below.alloc ?_ (by (first | omega | (simp; done) | (simp; omega) | (simp at *; omega))) _) | (refine Below.drew ?_) | (refine Gr.into _ ?_ (by (first | omega | (simp; done) | (simp; omega) | (simp at *; omega)))))), (by repeat (first | assumption | exact RowAt.new_at _ _ _ _ (by (first | omega | (simp; done) | (simp; omega) | (simp at *; omega))) | (refine RowAt.alloc ?_ _) | (refine RowAt.gr ?_ _) | (refine RowAt.setOther ?_ _ _ (by (first | omega | (simp; done) | (simp; omega) | (simp at *; omega)))) | (refine RowAt.drew ?_))), (by repeat (first | assumption | exact RowAt.new_at _ _ _ _ (by (first | omega | (simp; done) | (simp; omega) | (simp at *; omega))) | (refine RowAt.alloc ?_ _) | (refine RowAt.gr ?_ _) | (refine RowAt.setOther ?_ _ _ (by (first | omega | (simp; done) | (simp; omega) | (simp at *; omega)))) | (refine RowAt.drew ?_))), ?_⟩, by simp [intOf]; omega⟩
          rw [HR.out, HV.out]
          exact rb.set k _
        · have hz := HZ.out (low8_zero h1 h2)
          have HV := Lib.hid hz
          clear hz
          go_wp2
          refine ⟨⟨k + 1, by omega, by go_num, (by repeat (first | exact Below.refl _ _ | assumption | (refine Below.setCell ?_ (by (first | omega | (simp; done) | (simp; omega) | (simp at *; omega))) _) | (refine Below.alloc ?_ (by (first | omega | (simp; done) | (simp; omega) | (simp at *; omega))) _) | (refine Below.drew ?_) | (refine Gr.into _ ?_ (by (first | omega | (simp; done) | (simp; omega) | (simp at *; omega)))))), (by repeat (first | assumption | exact RowAt.new_at _ _ _ _ (by (first | omega | (simp; done) | (simp; omega) | (simp at *; omega))) | (refine RowAt.alloc ?_ _) | (refine RowAt.gr ?_ _) | (refine RowAt.setOther ?_ _ _ (by (first | omega | (simp; done) | (simp; omega) | (simp at *; omega)))) | (refine RowAt.drew ?_))), (by repeat (first | assumption | exact RowAt.new_at _ _ _ _ (by (first | omega | (simp; done) | (simp; omega) | (simp at *; omega))) | (refine RowAt.alloc ?_ _) | (refine RowAt.gr ?_ _) | (refine RowAt.setOther ?_ _ _ (by (first | omega | (simp; done) | (simp; omega) | (simp at *; omega)))) | (refine RowAt.drew ?_))), ?_⟩, by simp [intOf]; omega⟩
          rw [HV.out]
          exact rb
    · obtain rfl : k = N := by omega
      have hml := lowFill_length s.data.toList k k HN.out (Nat.le_refl _)
      have hstr := rb.string (P := Tryd.prog) (src := 62) (dst := 9) (cap := k) Tryd.underlying62 Tryd.underlying5 Tryd.underlying9
      rw [hml, lowFill_end _ _ HN.out, ← hM.out] at hstr
      have hbm : (b : Int) - 1 = ((b - 1 : Nat) : Int) := by omega
      have HB := Lib.hid hbm
      clear hml hbm
      go_wp2
      exact bodyPost_ret (v := .tuple #[.agg #[.int .i64 ((b : Int) - 1), .string ⟨M.toArray⟩], .int .i64 0]) (by simp [results, Tryd.results16, go_sem, rc0, rc1, rl]) rfl ⟨by rw [HB.out], (by repeat (first | exact Below.refl _ _ | assumption | (refine Below.setCell ?_ (by (first | omega | (simp; done) | (simp; omega) | (simp at *; omega))) _) | (refine Below.alloc ?_ (by (first | omega | (simp; done) | (simp; omega) | (simp at *; omega))) _) | (refine Below.drew ?_) | (refine Gr.into _ ?_ (by (first | omega | (simp; done) | (simp; omega) | (simp at *; omega))))))⟩
end Go.Proofs.YtngahohheleeeaaDoor
