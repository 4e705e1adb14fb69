/- Package scope: the places that pieces have come to, a map. -/
import Derived.Test.YtjhdgpboofcelaaDoorSA
import Derived.Test.YtjhdgpboofcelaaDoorFree
import Derived.Maps.OwnSet
import Derived.Lib.Hide
namespace Go.Proofs.YtjhdgpboofcelaaDoor
open Go.RowKit Go.Maps

/-- Block bm of w is a map that tells f. -/
def PlacesAt (w : World) (bm n : Nat) (f : Int → Int) : Prop :=
  ∃ D : DataW Unit, w.ownsMap Tryd.prog 3 (plainElem Tryd.prog 3) bm n D ∧ IsMap D ∧ ∀ a, (Lit.int .i64 a).wf = true → D.atKey (.int .i64 a) (.lit (.int .i64 0)) = .lit (.int .i64 (f a))
theorem keyedP : Keyed Tryd.prog 3 := int_keyed Tryd.underlying3
theorem key_ofP {a : Int} (h : (Lit.int .i64 a).wf = true) : keyOf Tryd.prog 3 (.int .i64 a) = some (.int .i64 a) := keyOf_int_mk Tryd.underlying3 h
theorem wf_i64P {a : Int} (h : -9223372036854775808 ≤ a ∧ a ≤ 9223372036854775807) : (Lit.int .i64 a).wf = true := by
  have e1 : IntKind.i64.min = -9223372036854775808 := by decide +kernel
  have e2 : IntKind.i64.max = 9223372036854775807 := by decide +kernel
  simp [Lit.wf, e1, e2]; omega
theorem PlacesAt.look {w : World} {bm n : Nat} {f : Int → Int} (h : PlacesAt w bm n f) {a : Int} (ha : -9223372036854775808 ≤ a ∧ a ≤ 9223372036854775807) :
    (Instr.lookup 43 (.map (some bm)) (.int .i64 a) false).run Tryd.prog w = .ok (.int .i64 (f a)) w := by
  obtain ⟨D, h0, -, hf⟩ := h
  obtain ⟨c, h1, h2, -⟩ := World.ownsMap.lookup_int h0 keyedP Tryd.underlying43 Tryd.underlying3 (by kernel_rfl) (key_ofP (wf_i64P ha))
  rw [hf a (wf_i64P ha)] at h2
  simp only [DataW.lit.injEq, Lit.int.injEq, true_and] at h2
  rw [h1, ← h2]
theorem PlacesAt.put {w : World} {bm n : Nat} {f : Int → Int} (h : PlacesAt w bm n f) (hn : n < 1000000) {a x : Int} (ha : -9223372036854775808 ≤ a ∧ a ≤ 9223372036854775807) (hx : -9223372036854775808 ≤ x ∧ x ≤ 9223372036854775807) :
    ∃ w', (Instr.mapUpdate 43 (.map (some bm)) (.int .i64 a) (.int .i64 x)).run Tryd.prog w = .ok () w' ∧ PlacesAt w' bm (n + 1) (fun b => if b = a then x else f b) ∧ w.mapTurned w' bm := by
  obtain ⟨D, h0, hM, hf⟩ := h
  obtain ⟨w', h1, h2, h3⟩ := World.ownsMap.store (R := plainElem Tryd.prog 3) h0 keyedP Tryd.underlying43 (by unfold maxLen; omega) (key_ofP (wf_i64P ha)) (plainElem_int Tryd.underlying3 (wf_i64P hx))
  refine ⟨w', h1, ⟨_, h2, ?_, fun b hb => ?_⟩, h3⟩
  · exact IsMap.put hM _ _
  · by_cases hba : b = a
    · subst hba
      simp only [if_true]
      exact atKey_put_same hM (by simp [WideAt.IsKeyLit]) _ _
    · simp only [hba, if_false]
      rw [atKey_put_other (by simpa using hba)]
      exact hf b hb
theorem PlacesAt.below {w W : World} {bm B n : Nat} {f : Int → Int} (h : PlacesAt w bm n f) (hb : Below B w W) (hB : bm < B) : PlacesAt W bm n f := by
  obtain ⟨D, ⟨es, clock, h1, h2⟩, h3⟩ := h
  exact ⟨D, ⟨es, clock, (hb.block bm hB).trans h1, h2⟩, h3⟩
theorem PlacesAt.lt {w : World} {bm n : Nat} {f : Int → Int} (h : PlacesAt w bm n f) : bm < w.heap.size := by
  obtain ⟨D, h1, -⟩ := h
  exact World.ownsMap.lt h1
theorem PlacesAt.mono {w : World} {bm n m : Nat} {f g : Int → Int} (h : PlacesAt w bm n f) (hn : n ≤ m) (hg : ∀ a, f a = g a) : PlacesAt w bm m g := by
  obtain rfl : f = g := funext hg
  obtain ⟨D, ⟨es, clock, h1, h2, h3, h4⟩, h5⟩ := h
  exact ⟨D, ⟨es, clock, h1, h2, Nat.le_trans h3 hn, h4⟩, h5⟩
theorem PlacesAt.made (w : World) : PlacesAt (w.alloc (.map #[] 0)) w.heap.size 0 (fun _ => 0) :=
  ⟨_, World.ownsMap_made _ _ _ _, isMap_empty, fun _ _ => rfl⟩
theorem below_turnedP {w W : World} {bm B : Nat} (h : w.mapTurned W bm) (hB : B ≤ bm) : Below B w W := by
  have g := h.grown
  have hlt : bm < w.heap.size := by
    obtain ⟨es, clock, es', clock', h1, -⟩ := h
    exact (Array.getElem?_eq_some_iff.1 h1).1
  exact ⟨g.os, g.tape, g.output, g.size, fun k hk => g.block k (by omega) (by simp; omega)⟩
/-- What the places' map tells. -/
def plc (b : Bool) : Int := if b then 1 else 0
def fP (ps : List Pc) (C : List Nat) (a : Int) : Int := if 0 ≤ a ∧ a ≤ C.length then plc (atP ps C a.toNat) else 0
theorem fP_at (ps : List Pc) (C : List Nat) (k : Nat) (h : k ≤ C.length) : fP ps C k = plc (atP ps C k) := by
  unfold fP
  rw [if_pos (by omega)]
  rfl
theorem fP_neg (ps : List Pc) (C : List Nat) : fP ps C (-1) = 0 := by
  unfold fP
  rw [if_neg (by omega)]
theorem fP_bd (ps : List Pc) (C : List Nat) (a : Int) : 0 ≤ fP ps C a ∧ fP ps C a ≤ 1 := by
  unfold fP plc
  split
  · split <;> omega
  · omega
/-- .. as far as k. -/
def gP (ps : List Pc) (C : List Nat) (k : Nat) (a : Int) : Int := if a < k then fP ps C a else 0
theorem gP_put (ps : List Pc) (C : List Nat) (k : Nat) (x : Int) (hx : x = fP ps C k) (a : Int) : (if a = (k : Int) then x else gP ps C k a) = gP ps C (k + 1) a := by
  unfold gP
  by_cases h : a = k
  · subst h
    rw [if_pos rfl, if_pos (by omega), hx]
  · rw [if_neg h]
    by_cases h2 : a < k
    · rw [if_pos h2, if_pos (by omega)]
    · rw [if_neg h2, if_neg (by omega)]
theorem gP_skip (ps : List Pc) (C : List Nat) (k : Nat) (hx : fP ps C k = 0) (a : Int) : gP ps C k a = gP ps C (k + 1) a := by
  unfold gP
  by_cases h : a = k
  · subst h
    rw [if_neg (by omega), if_pos (by omega), hx]
  · by_cases h2 : a < k
    · rw [if_pos h2, if_pos (by omega)]
    · rw [if_neg h2, if_neg (by omega)]
theorem gP_all (ps : List Pc) (C : List Nat) (a : Int) : gP ps C (C.length + 1) a = fP ps C a := by
  unfold gP
  by_cases h : a < (C.length : Int) + 1
  · rw [if_pos (by omega)]
  · rw [if_neg (by omega)]
    unfold fP
    rw [if_neg (by omega)]
theorem gP_zero (ps : List Pc) (C : List Nat) (a : Int) : (0 : Int) = gP ps C 0 a := by
  unfold gP fP
  by_cases h : a < ((0 : Nat) : Int)
  · rw [if_pos h, if_neg (by omega)]
  · rw [if_neg h]
theorem gP_back (ps : List Pc) (C : List Nat) (k : Nat) : gP ps C k (k - 1) = fP ps C ((k : Int) - 1) := by
  unfold gP
  rw [if_pos (by omega)]
theorem fP_many (ps : List Pc) (C : List Nat) (k : Nat) (h : k ≤ C.length) : fP (ps ++ [.many]) C k = max (fP ps C k) (fP (ps ++ [.many]) C ((k : Int) - 1)) := by
  rw [fP_at _ _ _ h, fP_at _ _ _ h, atP_many ps C k h]
  by_cases h0 : 0 < k
  · rw [show ((k : Int) - 1) = ((k - 1 : Nat) : Int) by omega, fP_at _ _ (k - 1) (by omega)]
    simp only [h0, decide_true, Bool.true_and]
    cases atP ps C k <;> cases atP (ps ++ [.many]) C (k - 1) <;> simp only [plc] <;> decide
  · obtain rfl : k = 0 := by omega
    rw [show (((0 : Nat) : Int) - 1) = -1 by rfl, fP_neg]
    simp only [Nat.lt_irrefl, decide_false, Bool.false_and, Bool.or_false]
    cases atP ps C 0 <;> simp only [plc] <;> decide
theorem fP_one (ps : List Pc) (C : List Nat) (k : Nat) (h : k ≤ C.length) : fP (ps ++ [.one]) C k = fP ps C ((k : Int) - 1) := by
  rw [fP_at _ _ _ h, atP_one ps C k h]
  by_cases h0 : 0 < k
  · rw [show ((k : Int) - 1) = ((k - 1 : Nat) : Int) by omega, fP_at _ _ (k - 1) (by omega)]
    simp [h0]
  · obtain rfl : k = 0 := by omega
    rw [show (((0 : Nat) : Int) - 1) = -1 by rfl, fP_neg]
    rfl
theorem fP_self (ps : List Pc) (r : Nat) (C : List Nat) (k : Nat) (h : k ≤ C.length) : fP (ps ++ [.self r]) C k = if 0 < k ∧ C.getD (k - 1) 0 = r then fP ps C ((k : Int) - 1) else 0 := by
  rw [fP_at _ _ _ h, atP_self ps r C k h]
  by_cases h0 : 0 < k
  · rw [show ((k : Int) - 1) = ((k - 1 : Nat) : Int) by omega, fP_at _ _ (k - 1) (by omega)]
    by_cases h1 : C.getD (k - 1) 0 = r
    · rw [if_pos ⟨h0, h1⟩, decide_eq_true h0, decide_eq_true h1]; rfl
    · rw [if_neg (fun h => h1 h.2), decide_eq_false h1, Bool.and_false]; rfl
  · rw [if_neg (fun h => h0 h.1), decide_eq_false h0]
    rfl
abbrev manyV : Value := .iface 62 (.agg #[])
abbrev oneV : Value := .iface 63 (.agg #[])
abbrev selfV (r : Nat) : Value := .iface 66 (.int .i32 r)
def pcV : Pc → Value
  | .many => manyV
  | .one => oneV
  | .self r => selfV r
set_option maxRecDepth 100000 in
set_option maxHeartbeats 2000000 in
theorem after_many (ps : List Pc) (C : List Nat) (bm n : Nat) (p : Option Addr) (cap : Nat) (w : World) (hM : PlacesAt w bm n (fP ps C)) (hC : C.length ≤ 10000) :
    Calls Tryd.prog 15 #[.map (some bm), manyV, .slice p C.length cap] w fun e w' => ∃ b, e = .returned (.map (some b)) ∧ Below w.heap.size w w' ∧ PlacesAt w' b 20000 (fP (ps ++ [.many]) C) := by
  have hta : ∀ w, Sem.run Tryd.prog (Instr.typeAssert manyV 45 62 true) w = .ok (.tuple #[.agg #[], .bool true]) w := fun _ => by kernel_rfl
  have hbm := hM.lt
  have hmm := @run_makeMap Tryd.prog
  go_enter Tryd.func15, Tryd.ntmps15
  go_wp2
  go_loopw [13] (fun i wr => ∃ (k m : Nat), k ≤ C.length + 1 ∧ m ≤ k ∧ i = .int .i64 k ∧ PlacesAt wr w.heap.size m (gP (ps ++ [.many]) C k) ∧ Below w.heap.size w wr)
    (fun i _ => C.length + 1 - (intOf i).toNat)
  case atStart => exact ⟨0, 0, by omega, by omega, rfl, (PlacesAt.made w).mono (Nat.le_refl _) (gP_zero _ C), (Below.refl _ _).alloc (Nat.le_refl _) _⟩
  case round =>
    obtain ⟨k, m, hk, hm, rfl, hP, hB⟩ := hrel
    have hB0 : w.heap.size ≤ w.heap.size := Nat.le_refl _
    by_cases hlk : k < C.length + 1
    · have hki : (k : Int) < C.length + 1 := by omega
      have h1 := (hM.below hB hbm).look (a := k) (by omega)
      have h2 := hP.look (a := (k : Int) - 1) (by omega)
      rw [gP_back] at h2
      have hfm := fP_many ps C k (by omega)
      have hb1 := fP_bd ps C k
      have hb2 := fP_bd (ps ++ [.many]) C ((k : Int) - 1)
      generalize fP ps C k = x at *
      generalize hy : fP (ps ++ [.many]) C ((k : Int) - 1) = y at *
      by_cases hxy : x < y
      · obtain ⟨W, hrW, hPW, hTW⟩ := hP.put (by omega) (a := k) (x := y) (by omega) (by omega)
        have hPW2 := hPW.mono (Nat.le_refl _) (gP_put _ C k _ (by omega))
        have hBW := hB.trans (below_turnedP hTW hB0 : Below w.heap.size wr W)
        clear hP hPW hfm hTW
        go_wp2
        go_roundw
        case rel => exact ⟨k + 1, m + 1, by omega, by omega, by go_num, hPW2, hBW⟩
        case measure => simp [intOf]; omega
      · have hyx : y ≤ x := by omega
        obtain ⟨W, hrW, hPW, hTW⟩ := hP.put (by omega) (a := k) (x := x) (by omega) (by omega)
        have hPW2 := hPW.mono (Nat.le_refl _) (gP_put _ C k _ (by omega))
        have hBW := hB.trans (below_turnedP hTW hB0 : Below w.heap.size wr W)
        clear hP hPW hfm hTW
        go_wp2
        go_roundw
        case rel => exact ⟨k + 1, m + 1, by omega, by omega, by go_num, hPW2, hBW⟩
        case measure => simp [intOf]; omega
    · have hki : ¬ (k : Int) < C.length + 1 := by omega
      obtain rfl : k = C.length + 1 := by omega
      have hPf := hP.mono (show m ≤ 20000 by omega) (gP_all _ C)
      clear hP
      go_wp2
      go_ret
      exact ⟨_, rfl, hB, hPf⟩
set_option maxRecDepth 100000 in
set_option maxHeartbeats 2000000 in
theorem after_one (ps : List Pc) (C : List Nat) (bm n : Nat) (p : Option Addr) (cap : Nat) (w : World) (hM : PlacesAt w bm n (fP ps C)) (hC : C.length ≤ 10000) :
    Calls Tryd.prog 15 #[.map (some bm), oneV, .slice p C.length cap] w fun e w' => ∃ b, e = .returned (.map (some b)) ∧ Below w.heap.size w w' ∧ PlacesAt w' b 20000 (fP (ps ++ [.one]) C) := by
  have hta : ∀ w, Sem.run Tryd.prog (Instr.typeAssert oneV 45 62 true) w = .ok (.tuple #[.agg #[], .bool false]) w := fun _ => by kernel_rfl
  have htb : ∀ w, Sem.run Tryd.prog (Instr.typeAssert oneV 45 63 true) w = .ok (.tuple #[.agg #[], .bool true]) w := fun _ => by kernel_rfl
  have hbm := hM.lt
  have hmm := @run_makeMap Tryd.prog
  go_enter Tryd.func15, Tryd.ntmps15
  go_wp2
  go_loopw [13] (fun i wr => ∃ (k m : Nat), k ≤ C.length + 1 ∧ m ≤ k ∧ i = .int .i64 k ∧ PlacesAt wr w.heap.size m (gP (ps ++ [.one]) C k) ∧ Below w.heap.size w wr)
    (fun i _ => C.length + 1 - (intOf i).toNat)
  case atStart => exact ⟨0, 0, by omega, by omega, rfl, (PlacesAt.made w).mono (Nat.le_refl _) (gP_zero _ C), (Below.refl _ _).alloc (Nat.le_refl _) _⟩
  case round =>
    obtain ⟨k, m, hk, hm, rfl, hP, hB⟩ := hrel
    have hB0 : w.heap.size ≤ w.heap.size := Nat.le_refl _
    by_cases hlk : k < C.length + 1
    · have hki : (k : Int) < C.length + 1 := by omega
      have h1 := (hM.below hB hbm).look (a := (k : Int) - 1) (by omega)
      have hfm := fP_one ps C k (by omega)
      have hb1 := fP_bd ps C ((k : Int) - 1)
      generalize fP ps C ((k : Int) - 1) = x at *
      obtain ⟨W, hrW, hPW, hTW⟩ := hP.put (by omega) (a := k) (x := x) (by omega) (by omega)
      have hPW2 := hPW.mono (Nat.le_refl _) (gP_put _ C k _ hfm.symm)
      have hBW := hB.trans (below_turnedP hTW hB0 : Below w.heap.size wr W)
      clear hP hPW hfm hTW
      go_wp2
      go_roundw
      case rel => exact ⟨k + 1, m + 1, by omega, by omega, by go_num, hPW2, hBW⟩
      case measure => simp [intOf]; omega
    · have hki : ¬ (k : Int) < C.length + 1 := by omega
      obtain rfl : k = C.length + 1 := by omega
      have hPf := hP.mono (show m ≤ 20000 by omega) (gP_all _ C)
      clear hP
      go_wp2
      go_ret
      exact ⟨_, rfl, hB, hPf⟩
/-- Codes in memory, below block B. -/
def CodesAt (w : World) (p : Option Addr) (C : List Nat) : Prop := C ≠ [] → ∃ a off, p = some ⟨a, off, none⟩ ∧ a < w.heap.size ∧ ∀ i (h : i < C.length), w.cell? ⟨a, off + i, none⟩ = some (.int .i32 (C[i] : Nat))
set_option maxRecDepth 100000 in
set_option maxHeartbeats 2000000 in
theorem after_self (ps : List Pc) (r : Nat) (C : List Nat) (bm n : Nat) (p : Option Addr) (cap : Nat) (w : World) (hM : PlacesAt w bm n (fP ps C)) (hC : C.length ≤ 10000) (hp : CodesAt w p C) :
    Calls Tryd.prog 15 #[.map (some bm), selfV r, .slice p C.length cap] w fun e w' => ∃ b, e = .returned (.map (some b)) ∧ Below w.heap.size w w' ∧ PlacesAt w' b 20000 (fP (ps ++ [.self r]) C) := by
  have hta : ∀ w, Sem.run Tryd.prog (Instr.typeAssert (selfV r) 45 62 true) w = .ok (.tuple #[.agg #[], .bool false]) w := fun _ => by kernel_rfl
  have htb : ∀ w, Sem.run Tryd.prog (Instr.typeAssert (selfV r) 45 63 true) w = .ok (.tuple #[.agg #[], .bool false]) w := fun _ => by kernel_rfl
  have htc : ∀ w, Sem.run Tryd.prog (Instr.typeAssert (selfV r) 45 66 false) w = .ok (.int .i32 r) w := fun _ => by kernel_rfl
  have hbm := hM.lt
  have hmm := @run_makeMap Tryd.prog
  go_enter Tryd.func15, Tryd.ntmps15
  go_wp2
  go_loopw [13] (fun i wr => ∃ (k m : Nat), k ≤ C.length + 1 ∧ m ≤ k ∧ i = .int .i64 k ∧ PlacesAt wr w.heap.size m (gP (ps ++ [.self r]) C k) ∧ Below w.heap.size w wr)
    (fun i _ => C.length + 1 - (intOf i).toNat)
  case atStart => exact ⟨0, 0, by omega, by omega, rfl, (PlacesAt.made w).mono (Nat.le_refl _) (gP_zero _ C), (Below.refl _ _).alloc (Nat.le_refl _) _⟩
  case round =>
    obtain ⟨k, m, hk, hm, rfl, hP, hB⟩ := hrel
    have hB0 : w.heap.size ≤ w.heap.size := Nat.le_refl _
    have hPl := hP.lt
    by_cases hlk : k < C.length + 1
    · have hki : (k : Int) < C.length + 1 := by omega
      have hfm := fP_self ps r C k (by omega)
      by_cases h0 : 0 < k
      · have h0' : (0 : Int) < k := by omega
        have hd : decide ((0 : Int) < k) = true := decide_eq_true h0'
        obtain ⟨j, rfl⟩ : ∃ j, k = j + 1 := ⟨k - 1, by omega⟩
        have hj : j < C.length := by omega
        obtain ⟨a, off, rfl, ha, hc⟩ := hp (by rintro rfl; simp at hj)
        have hcj := hc j hj
        rw [← hB.cell (p := ⟨a, off + j, none⟩) ha] at hcj
        have hal : a < wr.heap.size := Nat.lt_of_lt_of_le ha hB.size
        have hw1 : ((j + 1 : Nat) : Int) - 1 = j := by omega
        have hjc : (j : Int) < C.length := by omega
        have hg : C.getD (j + 1 - 1) 0 = C[j] := by simp [List.getD, hj]
        rw [hg] at hfm
        clear hg hc
        by_cases hr : C[j] = r
        · have hr2 : (((C[j] : Nat) : Int) == (r : Int)) = true := by simp; omega
          rw [if_pos ⟨h0, hr⟩] at hfm
          rw [hw1] at hfm
          have hb1 := fP_bd ps C (j : Int)
          have hM2 := hM.below hB hbm
          have HM2 := Lib.hid hM2
          have HP := Lib.hid hP
          clear hM2 hP
          go_wp2
          refine wp_region_gr (by kernel_rfl) (by kernel_rfl) ?_
          repeat (go_big_quiet_step (first | fail))
          refine wpQuiet_nil ?_
          intro g
          have hgl := g.le
          have h1 := (HM2.out.below (g.below.mono (by omega)) (by omega : bm < wr.heap.size)).look (a := (j : Int)) (by omega)
          generalize fP ps C (j : Int) = x at *
          obtain ⟨W, hrW, hPW, hTW⟩ := (HP.out.below g.below hPl).put (by omega) (a := ((j + 1 : Nat) : Int)) (x := x) (by omega) (by omega)
          have hPW2 := hPW.mono (Nat.le_refl _) (gP_put _ C (j + 1) _ hfm.symm)
          rw [show ((j + 1 : Nat) : Int) = (j : Int) + 1 from rfl] at hrW
          have hBW := (hB.trans (g.below.mono (by omega))).trans (below_turnedP hTW hB0 : Below w.heap.size g.world W)
          clear hPW hfm hTW
          go_wp2
          go_roundw
          case rel => exact ⟨j + 1 + 1, m + 1, by omega, by omega, by go_num, hPW2, hBW⟩
          case measure => simp [intOf]; omega
        · have hr2 : (((C[j] : Nat) : Int) == (r : Int)) = false := by simp; omega
          rw [if_neg (fun h => hr h.2)] at hfm
          have HP := Lib.hid (hP.mono (show m ≤ m + 1 by omega) (gP_skip _ C (j + 1) hfm))
          clear hP hfm
          go_wp2
          refine wp_region_gr (by kernel_rfl) (by kernel_rfl) ?_
          repeat (go_big_quiet_step (first | fail))
          refine wpQuiet_nil ?_
          intro g
          have hgl := g.le
          go_wp2
          go_roundw
          case rel => exact ⟨j + 1 + 1, m + 1, by omega, by omega, by go_num, HP.out.below g.below hPl, hB.trans (g.below.mono (by omega))⟩
          case measure => simp [intOf]; omega
      · have h0' : ¬ (0 : Int) < k := by omega
        have hd : decide ((0 : Int) < k) = false := decide_eq_false h0'
        rw [if_neg (fun h => h0 h.1)] at hfm
        have HP := Lib.hid (hP.mono (show m ≤ m + 1 by omega) (gP_skip _ C k hfm))
        clear hP hfm
        go_wp2
        refine wp_region_gr (by kernel_rfl) (by kernel_rfl) ?_
        repeat (go_big_quiet_step (first | fail))
        refine wpQuiet_nil ?_
        intro g
        have hgl := g.le
        go_wp2
        go_roundw
        case rel => exact ⟨k + 1, m + 1, by omega, by omega, by go_num, HP.out.below g.below hPl, hB.trans (g.below.mono (by omega))⟩
        case measure => simp [intOf]; omega
    · have hki : ¬ (k : Int) < C.length + 1 := by omega
      obtain rfl : k = C.length + 1 := by omega
      have hPf := hP.mono (show m ≤ 20000 by omega) (gP_all _ C)
      clear hP
      go_wp2
      go_ret
      exact ⟨_, rfl, hB, hPf⟩
theorem after_any (ps : List Pc) (x : Pc) (C : List Nat) (bm n : Nat) (p : Option Addr) (cap : Nat) (w : World) (hM : PlacesAt w bm n (fP ps C)) (hC : C.length ≤ 10000) (hp : CodesAt w p C) :
    Calls Tryd.prog 15 #[.map (some bm), pcV x, .slice p C.length cap] w fun e w' => ∃ b, e = .returned (.map (some b)) ∧ Below w.heap.size w w' ∧ PlacesAt w' b 20000 (fP (ps ++ [x]) C) := by
  cases x with
  | many => exact after_many ps C bm n p cap w hM hC
  | one => exact after_one ps C bm n p cap w hM hC
  | self r => exact after_self ps r C bm n p cap w hM hC hp
end Go.Proofs.YtjhdgpboofcelaaDoor
