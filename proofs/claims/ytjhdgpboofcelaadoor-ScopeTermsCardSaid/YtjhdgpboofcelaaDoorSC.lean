/- Package scope: pieces, IsPattern. -/
import Derived.Test.YtjhdgpboofcelaaDoorSB
import Derived.Test.YtjhdgpboofcelaaDoorC5
import Derived.Test.YtjhdgpboofcelaaDoorLB
import Derived.WideMake
import Derived.Laws.OwnMore
import Derived.Deep.AppendLies
namespace Go.Proofs.YtjhdgpboofcelaaDoor
open Go.RowKit Go.Maps
open Go.Lib (decodeL validD)

theorem rightA_one (x : BLab) : rightA [x] = (nameB x.1.data.toList && valueB x.2.data.toList) := by
  unfold rightA headB risingB otherB
  simp [pairsL]
theorem nameA : nameB ((⟨#[97]⟩ : ByteArray).data.toList) = true := by decide
theorem valueE : valueB ((⟨#[]⟩ : ByteArray).data.toList) = true := by decide +kernel
/-- One label, made. -/
theorem label_made (w : World) (x y : ByteArray) (hx : x.size ≤ 1000000) (hy : y.size ≤ 1000000) : LabelsAt (w.alloc (.cells #[.string x, .string y] 37)).heap.size (w.alloc (.cells #[.string x, .string y] 37)) (.slice (some ⟨w.heap.size, 0, none⟩) 1 1) [(x, y)] := by
  have r : RowAt (w.alloc (.cells #[.string x, .string y] 37)) w.heap.size 37 [.string x, .string y] := RowAt.of_new _ _ _
  obtain ⟨c0, c1, -, -, l⟩ := r.two
  refine ⟨fun z hz => ?_, by simp, .inr ⟨w.heap.size, 0, 1, rfl, l, by simp, fun i hi => ?_⟩⟩
  · simp at hz
    subst hz
    exact ⟨hx, hy⟩
  · obtain rfl : i = 0 := by simpa using hi
    exact ⟨c0, c1⟩
theorem setLast (w : World) (o o' : Obj) : ({ (w.alloc o) with heap := (w.alloc o).heap.setIfInBounds w.heap.size o' } : World) = w.alloc o' := by
  have e : (w.heap.push o).setIfInBounds w.heap.size o' = w.heap.push o' := by
    apply Array.ext'
    rw [Array.toList_setIfInBounds, Array.toList_push, Array.toList_push]
    have h : w.heap.size = w.heap.toList.length := by simp
    rw [h, List.set_append_right _ _ (Nat.le_refl _)]
    simp
  show ({ (w.alloc o) with heap := (w.heap.push o).setIfInBounds w.heap.size o' } : World) = _
  rw [e]
  rfl
/-- The map of the signs that stand for runes. -/
abbrev specO : Obj := .map #[⟨.int .i32 42, manyV, 0⟩, ⟨.int .i32 63, oneV, 1⟩] 2
theorem key_okP (r : Int) (w : World) (b : Bool) : (Instr.checkKey b 10000 21 (.int .i32 r)).run Tryd.prog w = .ok () w := MapKept.run_checkKey (k := .int .i32 r) Tryd.underlying21 (by simp [MapKept.IsKey]) b 9999
theorem spec_one (w : World) : Sem.run Tryd.prog (Instr.mapUpdate 64 (.map (some w.heap.size)) (.int .i32 42) manyV) (w.alloc (.map #[] 0)) = .ok () (w.alloc (.map #[⟨.int .i32 42, manyV, 0⟩] 1)) := by
  have hb := World.alloc_heap_new w (.map #[] 0)
  have hf : Instr.findNow (.int .i32) (.int .i32 42) ([] : List MapEntry) 0 = some none := rfl
  have hm := run_underlying (P := Tryd.prog) Tryd.underlying64
  simp only [Instr.mapUpdate, Sem.run_bind, hm, Result.andThen, MapKept.run_getObj_map hb, key_okP, MapKept.run_findKey Tryd.underlying21 hf, MapKept.run_setObj_map _ hb]
  exact congrArg _ (setLast w _ _)
theorem spec_two (w : World) : Sem.run Tryd.prog (Instr.mapUpdate 64 (.map (some w.heap.size)) (.int .i32 63) oneV) (w.alloc (.map #[⟨.int .i32 42, manyV, 0⟩] 1)) = .ok () (w.alloc specO) := by
  have hb := World.alloc_heap_new w (.map #[⟨.int .i32 42, manyV, 0⟩] 1)
  have hf : Instr.findNow (.int .i32) (.int .i32 63) [⟨.int .i32 42, manyV, 0⟩] 0 = some none := rfl
  have hm := run_underlying (P := Tryd.prog) Tryd.underlying64
  simp only [Instr.mapUpdate, Sem.run_bind, hm, Result.andThen, MapKept.run_getObj_map hb, key_okP, MapKept.run_findKey Tryd.underlying21 hf, MapKept.run_setObj_map _ hb]
  exact congrArg _ (setLast w _ _)
/-- What a sign stands for. -/
theorem spec_many (w : World) (k : Nat) (hb : w.heap[k]? = some specO) : Sem.run Tryd.prog (Instr.lookup 64 (.map (some k)) (.int .i32 42) true) w = .ok (.tuple #[manyV, .bool true]) w := by
  have hm := run_underlying (P := Tryd.prog) Tryd.underlying64
  have hf : Instr.findNow (.int .i32) (.int .i32 42) [⟨.int .i32 42, manyV, 0⟩, ⟨.int .i32 63, oneV, 1⟩] 0 = some (some (0, manyV)) := rfl
  simp only [Instr.lookup, Sem.run_bind, hm, Result.andThen, MapKept.run_getObj_map hb, key_okP]
  simp
  rw [MapKept.run_findKey Tryd.underlying21 hf]
  simp
theorem spec_onec (w : World) (k : Nat) (hb : w.heap[k]? = some specO) : Sem.run Tryd.prog (Instr.lookup 64 (.map (some k)) (.int .i32 63) true) w = .ok (.tuple #[oneV, .bool true]) w := by
  have hm := run_underlying (P := Tryd.prog) Tryd.underlying64
  have hf : Instr.findNow (.int .i32) (.int .i32 63) [⟨.int .i32 42, manyV, 0⟩, ⟨.int .i32 63, oneV, 1⟩] 0 = some (some (1, oneV)) := rfl
  simp only [Instr.lookup, Sem.run_bind, hm, Result.andThen, MapKept.run_getObj_map hb, key_okP]
  simp
  rw [MapKept.run_findKey Tryd.underlying21 hf]
  simp
theorem spec_none (w : World) (k : Nat) (hb : w.heap[k]? = some specO) (r : Int) (h1 : r ≠ 42) (h2 : r ≠ 63) : Sem.run Tryd.prog (Instr.lookup 64 (.map (some k)) (.int .i32 r) true) w = .ok (.tuple #[.nilIface, .bool false]) w := by
  have hm := run_underlying (P := Tryd.prog) Tryd.underlying64
  have e1 : ((42 : Int) == r) = false := by simp; omega
  have e2 : ((63 : Int) == r) = false := by simp; omega
  have e3 : (r == 42) = false := by simpa using h1
  have e4 : (r == 63) = false := by simpa using h2
  have hf : Instr.findNow (.int .i32) (.int .i32 r) [⟨.int .i32 42, manyV, 0⟩, ⟨.int .i32 63, oneV, 1⟩] 0 = some none := by
    simp only [Instr.findNow, Instr.sameNow, e1, e2, e3, e4]
    simp
  simp only [Instr.lookup, Sem.run_bind, hm, Result.andThen, MapKept.run_getObj_map hb, key_okP]
  simp
  rw [MapKept.run_findKey Tryd.underlying21 hf]
  simp [Tryd.zeroValue45]
theorem spec_any (w : World) (k : Nat) (hb : w.heap[k]? = some specO) (r : Nat) : ∃ xv okv, Sem.run Tryd.prog (Instr.lookup 64 (.map (some k)) (.int .i32 (r : Int)) true) w = .ok (.tuple #[xv, .bool okv]) w := by
  by_cases h1 : r = 42
  · subst h1; exact ⟨_, _, spec_many w k hb⟩
  · by_cases h2 : r = 63
    · subst h2; exact ⟨_, _, spec_onec w k hb⟩
    · exact ⟨_, _, spec_none w k hb r (by omega) (by omega)⟩
/-- Pieces in memory. -/
def PcsAt (w : World) (v : Value) (ps : List Pc) : Prop := ∃ p cap, v = .slice p ps.length cap ∧ (ps ≠ [] → ∃ a off, p = some ⟨a, off, none⟩ ∧ a < w.heap.size ∧ ∀ i (h : i < ps.length), w.cell? ⟨a, off + i, none⟩ = some (pcV ps[i]))
theorem PcsAt.at_ {w W : World} {v : Value} {ps : List Pc} (h : PcsAt w v ps) (hb : Below w.heap.size w W) : PcsAt W v ps := by
  obtain ⟨p, cap, h1, h2⟩ := h
  refine ⟨p, cap, h1, fun hne => ?_⟩
  obtain ⟨a, off, h3, h4, h5⟩ := h2 hne
  exact ⟨a, off, h3, Nat.lt_of_lt_of_le h4 hb.size, fun i hi => (hb.cell (by exact h4)).trans (h5 i hi)⟩
theorem PcsAt.of_own {w : World} {base n : Nat} {v : Value} {ps : List Pc} (h : w.ownsRow base 45 1 v n (ps.map pcV)) (hn : n = ps.length) : PcsAt w v ps := by
  subst hn
  rcases Nat.eq_zero_or_pos ps.length with h0 | h0
  · obtain rfl : ps = [] := List.eq_nil_of_length_eq_zero h0
    obtain ⟨-, ⟨rfl, -⟩ | ⟨g, cap, cur, rfl, -⟩⟩ := h
    · exact ⟨_, _, rfl, fun h => absurd rfl h⟩
    · exact ⟨_, _, rfl, fun h => absurd rfl h⟩
  · obtain ⟨g, cap, rfl, h2, h3⟩ := World.ownsRow.form h h0
    refine ⟨_, _, rfl, fun _ => ⟨g, 0, rfl, h3, fun i hi => ?_⟩⟩
    have c := World.ownsRow.cellAt h i (by omega)
    rw [Nat.zero_add, c]
    simp [hi]
/-- A pattern's pieces. -/
def pcsOf (l : List UInt8) : List Pc × Bool := pcsF false (codes l)
theorem pcsF_self (l : List Nat) (r : Nat) (e : Bool) (h : e = true ∨ (r ≠ 42 ∧ r ≠ 63 ∧ r ≠ 126)) : pcsF e (r :: l) = (.self r :: (pcsF false l).1, (pcsF false l).2) := by
  rw [pcsF, if_pos]
  rcases h with rfl | ⟨h1, h2, h3⟩
  · rfl
  · simp [h1, h2, h3]
theorem pcsF_sign (l : List Nat) : pcsF false (126 :: l) = pcsF true l := by
  rw [pcsF, if_neg (by decide), if_pos (by decide)]
theorem pcsF_many (l : List Nat) : pcsF false (42 :: l) = (.many :: (pcsF false l).1, (pcsF false l).2) := by
  rw [pcsF, if_neg (by decide), if_neg (by decide), if_pos (by decide)]
theorem pcsF_one (l : List Nat) : pcsF false (63 :: l) = (.one :: (pcsF false l).1, (pcsF false l).2) := by
  rw [pcsF, if_neg (by decide), if_neg (by decide), if_neg (by decide)]
/-- What is left of a pattern. -/
def LeftPc (T : List Pc × Bool) (qs : List Pc) (e : Bool) (l : List UInt8) : Prop := T = (qs ++ (pcsF e (codes l)).1, (pcsF e (codes l)).2)
theorem LeftPc.snoc {T : List Pc × Bool} {qs : List Pc} {e : Bool} {l l' : List UInt8} {r : Nat} {x : Pc} (h : LeftPc T qs e l) (hc : codes l = r :: codes l') (hp : pcsF e (r :: codes l') = (x :: (pcsF false (codes l')).1, (pcsF false (codes l')).2)) : LeftPc T (qs ++ [x]) false l' := by
  unfold LeftPc at *
  rw [h, hc, hp]
  simp
theorem codes_at (s : ByteArray) (pos r k : Nat) (hp : pos < s.size) (hd : Utf8.decode s pos = (r, k)) (hb : ¬ (r = 65533 ∧ k = 1)) : codes (s.data.toList.drop pos) = r :: codes (s.data.toList.drop (pos + k)) := by
  have h := codes_step (s.data.toList.drop pos) (drop_ne s pos hp) (by rw [Lib.decodeL_drop, hd]; exact hb)
  rw [Lib.decodeL_drop, hd, List.drop_drop] at h
  exact h
set_option maxRecDepth 100000 in
set_option maxHeartbeats 2000000 in
theorem pieces_no (s : ByteArray) (w : World) (hs : s.size ≤ 1000000) (hV : valueB s.data.toList = false) :
    Calls Tryd.prog 14 #[.string s] w fun e w' => e = .returned (.tuple #[.slice none 0 0, .bool false]) ∧ Below w.heap.size w w' := by
  have hR := right_any _ _ _ (label_made w ⟨#[97]⟩ s (by decide) hs)
  rw [rightA_one, nameA, Bool.true_and, hV] at hR
  go_enter Tryd.func14, Tryd.ntmps14
  go_wp2_with fail
  refine hR.mono ?_
  rintro e w1 ⟨rfl, hB⟩
  go_wp2_with fail
  go_ret2
  exact ⟨rfl, ((Below.refl _ _).alloc (Nat.le_refl _) _).trans (hB.mono (by simp))⟩
theorem wpList_append_pc {w : World} {ops : Array Oper} {rest : List Oper} {o : Oper} {a : Act} {Q : Exit → Act → World → Prop} (hgd : o.guard = none) (s x : Operand) (ho : o.op = .call { callee := .builtin .append, args := #[s, x], argTypes := #[38, 38] })
    (base : Nat) (v : Value) (qs : List Pc) (y : Pc) (g : Nat) (hs : a.eval s = v) (hxv : a.eval x = .slice (some ⟨g, 0, none⟩) 1 1) (hown : w.ownsRow base 45 1 v qs.length (qs.map pcV)) (hc : w.cell? ⟨g, 0, none⟩ = some (pcV y)) (hl : qs.length ≤ 2000000) (hb : base ≤ w.heap.size)
    (h : ∀ v' w', w'.ownsRow base 45 1 v' (qs ++ [y]).length ((qs ++ [y]).map pcV) → w.grownBy w' v.ownBlock → wpList Tryd.prog ops Q rest (a.put o.dst v') w') : wpList Tryd.prog ops Q (o :: rest) a w := by
  obtain ⟨i0, hi, hz0, hz1, hz2⟩ := info_parts (show (Tryd.prog.info? 45).map (fun i => (i.zero, i.size, i.bytes)) = some (some .nilIface, 1, 16) by kernel_rfl)
  obtain ⟨v', w', h1, h2, h3, -⟩ := run_append_own (P := Tryd.prog) w base 38 o.type 45 i0 .nilIface 1 16 Tryd.underlying38 hi hz0 hz1 hz2 rfl (by omega) v qs.length _ hown ⟨g, 0, none⟩ 1 1 [pcV y] rfl
    (fun j u hj => by
      obtain ⟨hlt, rfl⟩ := List.getElem?_eq_some_iff.1 hj
      obtain rfl : j = 0 := by simpa using hlt
      simpa [Addr.add] using hc)
    (fun u hu => by simp at hu; subst hu; cases y <;> rfl) (by unfold maxLen; omega) (by omega) hb
  refine wpList_plain hgd fun R hR => ?_
  unfold Oper.wp execOp
  simp only [ho, resolve, invoke, builtin, Sem.run_bind, Sem.run_pure, Result.andThen_ok, List.map_toArray, List.map_cons, List.map_nil, hs, hxv, h1]
  refine hR _ _ (h v' w' ?_ h3)
  simpa using h2
theorem round_app {X Y : World} {b : Nat} {v : Value} {qs : List Pc} {ob A B : Obj} (hown : X.ownsRow (b + 2) 45 1 v qs.length (qs.map pcV)) (hgr : (X.alloc ob).grownBy Y v.ownBlock) (hsz : b + 2 ≤ X.heap.size) (hit : X.heap[b + 1]? = some A) (hsp : X.heap[b]? = some B) :
    Y.heap[b + 1]? = some A ∧ Y.heap[b]? = some B ∧ b + 2 ≤ Y.heap.size ∧ Below (b + 2) X Y := by
  have hB : Below (b + 2) X Y := ((Below.refl _ X).alloc hsz _).grown hgr (by rw [World.size_alloc]; omega) (fun k e => (hown.lt k e).1)
  exact ⟨(hB.block (b + 1) (by omega)).trans hit, (hB.block b (by omega)).trans hsp, by have := hB.size; omega, hB⟩
set_option maxRecDepth 100000 in
set_option maxHeartbeats 4000000 in
theorem pieces_yes (s : ByteArray) (w : World) (hs : s.size ≤ 1000000) (hV : valueB s.data.toList = true) :
    Calls Tryd.prog 14 #[.string s] w fun e w' => Below w.heap.size w w' ∧ ∃ v, e = .returned (.tuple #[v, .bool (!(pcsOf s.data.toList).2)]) ∧ PcsAt w' v (pcsOf s.data.toList).1 := by
  have hR := right_any _ _ _ (label_made w ⟨#[97]⟩ s (by decide) hs)
  rw [rightA_one, nameA, Bool.true_and, hV] at hR
  have hval : validD s.data.toList = true := by
    unfold valueB at hV
    simp only [Bool.and_eq_true] at hV
    exact hV.1.1
  have hmm := @run_makeMap Tryd.prog
  have hL0 : LeftPc (pcsOf s.data.toList) [] false (s.data.toList.drop 0) := by unfold LeftPc pcsOf; simp
  have hv0 : validD (s.data.toList.drop 0) = true := by simpa using hval
  generalize pcsOf s.data.toList = T at *
  have HL0 := Lib.hid (And.intro hL0 hv0)
  clear hL0 hv0 hval hV
  go_enter Tryd.func14, Tryd.ntmps14
  go_wp2_with fail
  refine hR.mono ?_
  rintro e w1 ⟨rfl, hB⟩
  have h1 := spec_one w1
  have h2 := spec_two w1
  have hB1 : Below w.heap.size w w1 := ((Below.refl _ _).alloc (Nat.le_refl _) _).trans (hB.mono (by simp))
  have s1 := hB1.size
  clear hR hB
  go_wp2_with fail
  have hit0 : ((w1.alloc specO).iter s 0).heap[w1.heap.size + 1]? = some (.stringIter s 0) := by
    have := World.iter_heap (w1.alloc specO) s 0
    simpa using this
  have hsp0 : ((w1.alloc specO).iter s 0).heap[w1.heap.size]? = some specO := (Below.heap_alloc (w1.alloc specO) _ w1.heap.size (by simp)).trans (World.alloc_heap_new w1 specO)
  have hBW : Below w.heap.size w ((w1.alloc specO).iter s 0) := (hB1.alloc s1 _).alloc (by simp; omega) _
  have hsz0 : w1.heap.size + 2 ≤ ((w1.alloc specO).iter s 0).heap.size := by
    show _ ≤ ((w1.alloc specO).alloc (.stringIter s 0)).heap.size
    simp
  generalize (w1.alloc specO).iter s 0 = W0 at *
  clear h1 h2 hmm
  generalize w1.heap.size = b at *
  go_loopw [5, 6] (fun o e wr => ∃ (pos : Nat) (E : Bool) (qs : List Pc), e = .bool E ∧ wr.heap[b + 1]? = some (.stringIter s pos) ∧ wr.heap[b]? = some specO ∧ wr.ownsRow (b + 2) 45 1 o qs.length (qs.map pcV) ∧ LeftPc T qs E (s.data.toList.drop pos) ∧ validD (s.data.toList.drop pos) = true ∧ qs.length ≤ pos ∧ pos ≤ s.size ∧ b + 2 ≤ wr.heap.size ∧ Below w.heap.size w wr)
    (fun _ _ wr => s.size - wr.iterPos (b + 1))
  case atStart => exact ⟨0, false, [], rfl, hit0, hsp0, World.ownsRow_nil _ _ _ _, HL0.out.1, HL0.out.2, Nat.le_refl _, Nat.zero_le _, hsz0, hBW⟩
  case round =>
    rename_i wr
    clear HL0 hit0 hsp0 hBW hsz0 hB1
    obtain ⟨pos, E, qs, rfl, hit, hsp, hown, hL, hv, hqs, hps, hsz, hB⟩ := hrel
    have hBs := hB.size
    by_cases hp : pos < s.size
    · obtain ⟨r, k, hd, hk1, hk2, hr, e1, e2, -⟩ := rune_at s pos hp
      rw [e2] at hv
      have hbad : ¬ (r = 65533 ∧ k = 1) := by
        intro hb
        rw [if_pos hb] at hv
        cases hv
      rw [if_neg hbad] at hv
      have hcs := codes_at s pos r k hp hd hbad
      have hnx : ∀ ty, (Instr.next (.pointer (some ⟨b + 1, 0, none⟩)) true ty).run Tryd.prog wr = _ := fun ty => Lib.run_next_any_at wr (b + 1) s pos ty hit hp
      rw [hd] at hnx
      simp only at hnx
      have hit2 := Lib.iterAt_heap wr (b + 1) s pos (pos + k) hit
      have hsp2 : (wr.iterAt (b + 1) s (pos + k)).heap[b]? = some specO := (Lib.iterAt_other _ _ _ _ _ (by omega)).trans hsp
      have hown2 := ownsRow_iterAt hown (k := b + 1) (by omega) s (pos + k)
      have hB2 : Below w.heap.size w (wr.iterAt (b + 1) s (pos + k)) := Lib.below_iterAt hB (by omega) s (pos + k)
      have hsz2 : b + 2 ≤ (wr.iterAt (b + 1) s (pos + k)).heap.size := by rw [Lib.iterAt_size]; exact hsz
      generalize wr.iterAt (b + 1) s (pos + k) = X at *
      have HV := Lib.hid (And.intro hv (And.intro hcs hL))
      have HI := Lib.hid (And.intro hit hit2)
      have HO := Lib.hid hown2
      have HB := Lib.hid hB2
      have HS := Lib.hid hsp2
      clear hv hcs hL hd e1 e2 hit hown hsp hit2 hB2 hown2
      cases E
      · by_cases h42 : r = 42
        · subst h42
          have hlk := spec_many X b hsp2
          clear hsp2
          go_wp2_with (at_builtin; refine wpList_append_pc rfl _ _ rfl (b + 2) _ qs (.many) X.heap.size rfl rfl (World.ownsRow.alloc HO.out _) ((RowAt.of_new X _ _).cell 0 (by simp)) (by omega) (by rw [World.size_alloc]; omega) ?_; intro v' Y hown3 hgr)
          obtain ⟨k1, k2, k3, k4⟩ := round_app HO.out hgr hsz2 HI.out.2 HS.out
          have HA := Lib.hid hown3
          clear hgr hown3
          go_roundw
          case rel => exact ⟨pos + k, false, qs ++ [.many], rfl, k1, k2, HA.out, HV.out.2.2.snoc HV.out.2.1 (pcsF_many _), HV.out.1, by simp; omega, by omega, k3, HB.out.trans (k4.mono (by omega))⟩
          case measure => rw [iterPos_of k1, iterPos_of HI.out.1]; omega
        · by_cases h63 : r = 63
          · subst h63
            have hlk := spec_onec X b hsp2
            clear hsp2
            go_wp2_with (at_builtin; refine wpList_append_pc rfl _ _ rfl (b + 2) _ qs (.one) X.heap.size rfl rfl (World.ownsRow.alloc HO.out _) ((RowAt.of_new X _ _).cell 0 (by simp)) (by omega) (by rw [World.size_alloc]; omega) ?_; intro v' Y hown3 hgr)
            obtain ⟨k1, k2, k3, k4⟩ := round_app HO.out hgr hsz2 HI.out.2 HS.out
            have HA := Lib.hid hown3
            clear hgr hown3
            go_roundw
            case rel => exact ⟨pos + k, false, qs ++ [.one], rfl, k1, k2, HA.out, HV.out.2.2.snoc HV.out.2.1 (pcsF_one _), HV.out.1, by simp; omega, by omega, k3, HB.out.trans (k4.mono (by omega))⟩
            case measure => rw [iterPos_of k1, iterPos_of HI.out.1]; omega
          · by_cases h126 : r = 126
            · subst h126
              have hlk := spec_none X b hsp2 126 (by decide) (by decide)
              clear hsp2
              go_wp2
              go_roundw
              case rel => exact ⟨pos + k, true, qs, rfl, HI.out.2, HS.out, HO.out, by
                have h1 := HV.out.2.2
                unfold LeftPc at *
                rw [h1, HV.out.2.1, pcsF_sign], HV.out.1, by omega, by omega, hsz2, HB.out⟩
              case measure => rw [iterPos_of HI.out.2, iterPos_of HI.out.1]; omega
            · have hne : ((r : Int) != 126) = true := by simp; omega
              have hlk := spec_none X b hsp2 r (by omega) (by omega)
              clear hsp2
              go_wp2_with (at_builtin; refine wpList_append_pc rfl _ _ rfl (b + 2) _ qs (.self r) X.heap.size rfl rfl (World.ownsRow.alloc HO.out _) ((RowAt.of_new X _ _).cell 0 (by simp)) (by omega) (by rw [World.size_alloc]; omega) ?_; intro v' Y hown3 hgr)
              obtain ⟨k1, k2, k3, k4⟩ := round_app HO.out hgr hsz2 HI.out.2 HS.out
              have HA := Lib.hid hown3
              clear hgr hown3
              go_roundw
              case rel => exact ⟨pos + k, false, qs ++ [.self r], rfl, k1, k2, HA.out, HV.out.2.2.snoc HV.out.2.1 (pcsF_self _ r false (.inr ⟨h42, h63, h126⟩)), HV.out.1, by simp; omega, by omega, k3, HB.out.trans (k4.mono (by omega))⟩
              case measure => rw [iterPos_of k1, iterPos_of HI.out.1]; omega
      · obtain ⟨xv, okv, hlk⟩ := spec_any X b hsp2 r
        clear hsp2
        go_wp2_with (at_builtin; refine wpList_append_pc rfl _ _ rfl (b + 2) _ qs (.self r) X.heap.size rfl rfl (World.ownsRow.alloc HO.out _) ((RowAt.of_new X _ _).cell 0 (by simp)) (by omega) (by rw [World.size_alloc]; omega) ?_; intro v' Y hown3 hgr)
        obtain ⟨k1, k2, k3, k4⟩ := round_app HO.out hgr hsz2 HI.out.2 HS.out
        have HA := Lib.hid hown3
        clear hgr hown3
        go_roundw
        case rel => exact ⟨pos + k, false, qs ++ [.self r], rfl, k1, k2, HA.out, HV.out.2.2.snoc HV.out.2.1 (pcsF_self _ r true (.inl rfl)), HV.out.1, by simp; omega, by omega, k3, HB.out.trans (k4.mono (by omega))⟩
        case measure => rw [iterPos_of k1, iterPos_of HI.out.1]; omega
    · have h0 : s.data.toList.drop pos = [] := List.drop_eq_nil_of_le (by rw [data_length]; omega)
      have hnx : ∀ ty, (Instr.next (.pointer (some ⟨b + 1, 0, none⟩)) true ty).run Tryd.prog wr = _ := fun ty => Lib.run_next_end_at wr (b + 1) s pos ty hit hp
      rw [h0] at hL
      have hT : T = (qs, E) := by
        rw [hL]
        show (qs ++ [], E) = _
        rw [List.append_nil]
      subst hT
      have HP := Lib.hid (PcsAt.of_own hown rfl)
      clear hL h0 hit hsp hown
      go_wp2
      go_ret2
      exact ⟨hB, _, rfl, HP.out⟩
theorem pattern_no (s : ByteArray) (w : World) (hs : s.size ≤ 1000000) (hV : valueB s.data.toList = false) :
    Calls Tryd.prog 7 #[.string s] w fun e w' => e = .returned (.bool false) ∧ Below w.heap.size w w' := by
  have h := pieces_no s w hs hV
  go_enter Tryd.func7, Tryd.ntmps7
  go_wp2_with fail
  refine h.mono ?_
  rintro e w1 ⟨rfl, hB⟩
  go_wp2_with fail
  go_ret
  exact ⟨rfl, hB⟩
theorem pattern_yes (s : ByteArray) (w : World) (hs : s.size ≤ 1000000) (hV : valueB s.data.toList = true) :
    Calls Tryd.prog 7 #[.string s] w fun e w' => e = .returned (.bool (!(pcsOf s.data.toList).2)) ∧ Below w.heap.size w w' := by
  have h := pieces_yes s w hs hV
  generalize pcsOf s.data.toList = T at *
  clear hV
  go_enter Tryd.func7, Tryd.ntmps7
  go_wp2_with fail
  refine h.mono ?_
  rintro e w1 ⟨hB, v, rfl, -⟩
  go_wp2_with fail
  go_ret
  exact ⟨rfl, hB⟩
/-- A text's pieces; none: it is no pattern. -/
def pcsA (l : List UInt8) : Option (List Pc) := if valueB l && !(pcsOf l).2 then some (pcsOf l).1 else none
theorem pattern_any (s : ByteArray) (w : World) (hs : s.size ≤ 1000000) :
    Calls Tryd.prog 7 #[.string s] w fun e w' => e = .returned (.bool (pcsA s.data.toList).isSome) ∧ Below w.heap.size w w' := by
  cases hV : valueB s.data.toList
  · have e : (pcsA s.data.toList).isSome = false := by unfold pcsA; rw [hV]; rfl
    rw [e]
    exact pattern_no s w hs hV
  · have e : (pcsA s.data.toList).isSome = !(pcsOf s.data.toList).2 := by
      unfold pcsA
      rw [hV]
      cases (pcsOf s.data.toList).2 <;> rfl
    rw [e]
    exact pattern_yes s w hs hV
end Go.Proofs.YtjhdgpboofcelaaDoor
