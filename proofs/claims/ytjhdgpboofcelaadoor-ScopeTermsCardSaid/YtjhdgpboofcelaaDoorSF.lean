/- strings.Cut at a sign; package scope: terms. -/
import Derived.Test.YtjhdgpboofcelaaDoorSE
namespace Go.Proofs.YtjhdgpboofcelaaDoor
open Go.RowKit
attribute [local go_sem] Oper.semAt_some

/-- What stands ahead of a sign, and behind it. -/
def cutA (l : List UInt8) : List UInt8 × List UInt8 := if Lib.indexByte l 61 < 0 then (l, []) else (l.take (Lib.indexByte l 61).toNat, l.drop ((Lib.indexByte l 61).toNat + 1))
/-- A term's name and pattern. -/
def termA (l : List UInt8) : List UInt8 × List UInt8 := if Lib.indexByte l 61 < 0 then ([], []) else (l.take (Lib.indexByte l 61).toNat, l.drop ((Lib.indexByte l 61).toNat + 1))
theorem mk_listU (V : ByteArray) : (⟨V.data.toList.toArray⟩ : ByteArray) = V := ByteArray.ext (by simp)
theorem extract_headU (s : ByteArray) (i : Nat) : s.extract 0 i = (⟨(s.data.toList.take i).toArray⟩ : ByteArray) := by
  apply ByteArray.ext
  apply Array.toList_inj.1
  rw [Lib.extract_data]
  simp
theorem extract_dropU (s : ByteArray) (i : Nat) : s.extract i s.size = (⟨(s.data.toList.drop i).toArray⟩ : ByteArray) := by
  apply ByteArray.ext
  apply Array.toList_inj.1
  exact extract_tail s i
theorem indexByte_lt : ∀ (l : List UInt8) (c : UInt8) (i : Nat), Lib.indexByte l c = i → i < l.length := fun l c i h => by
  obtain ⟨h1, -⟩ := Lib.indexByte_some h
  exact (List.getElem?_eq_some_iff.1 h1).1
set_option maxRecDepth 100000 in
theorem cutLite_any (s : ByteArray) (w : World) (hs : s.size ≤ 1000000) :
    Calls Tryd.prog 42 #[.string s, .string ⟨#[61]⟩] w fun e w' => (∃ ok, e = .returned (.tuple #[.string ⟨(cutA s.data.toList).1.toArray⟩, .string ⟨(cutA s.data.toList).2.toArray⟩, .bool ok])) ∧ Below w.heap.size w w' := by
  have hix := fun W => Tryd.stringslite_Index_one s 61 W
  have hsz : (⟨#[61]⟩ : ByteArray).size = 1 := rfl
  unfold cutA
  by_cases hneg : Lib.indexByte s.data.toList 61 < 0
  · rw [if_pos hneg]
    have hm : Lib.indexByte s.data.toList 61 = -1 := by have := Lib.indexByte_ge s.data.toList 61; omega
    rw [hm] at hix
    clear hneg hm
    simp only [mk_listU]
    go_enter Tryd.func42, Tryd.ntmps42
    go_wp2_with (go_at_call 57; refine (hix _).mono ?_; rintro e w' ⟨rfl, rfl⟩)
    go_ret3
    exact ⟨⟨_, rfl⟩, Below.refl _ _⟩
  · rw [if_neg hneg]
    obtain ⟨i, hi⟩ : ∃ i : Nat, Lib.indexByte s.data.toList 61 = i := ⟨(Lib.indexByte s.data.toList 61).toNat, by omega⟩
    have hlt := indexByte_lt _ _ _ hi
    rw [data_length] at hlt
    rw [hi] at hix ⊢
    have hi0 : (0 : Int) ≤ i := by omega
    have hi1 : (i : Int) ≤ s.size := by omega
    have hi2 : (i : Int) + 1 ≤ s.size := by omega
    have hi3 : ((i : Int) + 1).toNat = i + 1 := by omega
    simp only [Int.toNat_natCast]
    rw [← extract_headU, ← extract_dropU]
    clear hneg hi
    go_enter Tryd.func42, Tryd.ntmps42
    go_wp2_with (go_at_call 57; refine (hix _).mono ?_; rintro e w' ⟨rfl, rfl⟩)
    refine wp_region_gr (by kernel_rfl) (by kernel_rfl) ?_
    repeat (go_big_quiet_step (first | fail))
    refine wpQuiet_nil ?_
    intro g
    have hgl := g.le
    go_wp2
    go_ret3
    exact ⟨⟨_, rfl⟩, g.below⟩
theorem cut_any (s : ByteArray) (w : World) (hs : s.size ≤ 1000000) :
    Calls Tryd.prog 31 #[.string s, .string ⟨#[61]⟩] w fun e w' => (∃ ok, e = .returned (.tuple #[.string ⟨(cutA s.data.toList).1.toArray⟩, .string ⟨(cutA s.data.toList).2.toArray⟩, .bool ok])) ∧ Below w.heap.size w w' := by
  have h := cutLite_any s w hs
  generalize (⟨(cutA s.data.toList).1.toArray⟩ : ByteArray) = a at *
  generalize (⟨(cutA s.data.toList).2.toArray⟩ : ByteArray) = b at *
  go_enter Tryd.func31, Tryd.ntmps31
  go_wp2_with fail
  refine h.mono ?_
  rintro e w' ⟨⟨ok, rfl⟩, hB⟩
  go_wp2_with fail
  go_ret3
  exact ⟨⟨_, rfl⟩, hB⟩
theorem keepsFrom_below {B : Nat} {X Y : World} (h : Below X.heap.size X Y) : KeepsFrom B X Y := ⟨h.size, fun k o _ h0 _ => (h.block k (Array.getElem?_eq_some_iff.1 h0).1).trans h0⟩
theorem grown_below {X Y : World} (h : Below X.heap.size X Y) : X.grownBy Y none := ⟨h.os, h.tape, h.output, h.size, fun k hk _ => h.block k hk⟩
theorem splitSeq_any (s : ByteArray) (w : World) :
    Calls Tryd.prog 30 #[.string s, .string ⟨#[59]⟩] w fun e w' => e = .returned (.func (.func 55) #[] #[.pointer (some ⟨w.heap.size + 1, 0, none⟩), .pointer (some ⟨w.heap.size, 0, none⟩), .pointer (some ⟨w.heap.size + 2, 0, none⟩)]) ∧
      ((w.alloc (.cells #[.string s] 9)).alloc (.cells #[.string ⟨#[59]⟩] 9)).alloc (.cells #[.int .i64 0] 3) = w' := by
  go_enter Tryd.func30, Tryd.ntmps30
  go_wp2
  go_ret
  exact ⟨rfl, rfl⟩
/-- Terms' names and patterns, not too long. -/
abbrev TB : Type := { x : List UInt8 × List UInt8 // x.1.length ≤ 1000000 ∧ x.2.length ≤ 1000000 }
theorem termA_le (l : List UInt8) (h : l.length ≤ 1000000) : (termA l).1.length ≤ 1000000 ∧ (termA l).2.length ≤ 1000000 := by
  unfold termA
  split
  · simp
  · simp only [List.length_take, List.length_drop]; omega
def termS (x : SB) : TB := ⟨termA x.1, termA_le x.1 x.2⟩
abbrev termArgs (x : TB) : Array Value := #[.string ⟨x.1.1.toArray⟩, .string ⟨x.1.2.toArray⟩]
theorem term_ways (x : SB) : ∃ (A B N : ByteArray) (c : Bool), (⟨(cutA x.1).1.toArray⟩ : ByteArray) = A ∧ (⟨(cutA x.1).2.toArray⟩ : ByteArray) = B ∧ decide (0 ≤ Lib.indexByte x.1 61) = c ∧ N = (if c then A else ⟨#[]⟩) ∧ termArgs (termS x) = #[.string N, .string B] := by
  refine ⟨_, _, _, _, rfl, rfl, rfl, rfl, ?_⟩
  show #[Value.string ⟨(termA x.1).1.toArray⟩, Value.string ⟨(termA x.1).2.toArray⟩] = _
  unfold termA cutA
  by_cases h : Lib.indexByte x.1 61 < 0
  · rw [if_pos h, if_pos h, decide_eq_false (by omega)]
    rfl
  · rw [if_neg h, if_neg h, decide_eq_true (by omega)]
    rfl
/-- Behind a range over a function, in a function with no results. -/
theorem bodyPostM_none {n : Nat} {P : Program} {fn : Func} {R : Ending → World → Prop} {a : Act} {w : World} {v : Value} {D : Nat} {x : Exit} (hx : x = .normal ∨ x = .ret) (hK : w.heap[D]? = some (.deferred (some [])))
    (hr : (results fn a.tmps).run P (w.putObj D (.deferred none)) = .ok v (w.putObj D (.deferred none))) (hd : a.defers = [{ target := .collected D, args := #[] }]) (hR : R (.returned v) (w.putObj D (.deferred none))) : bodyPostM Fence.wide n P fn R x a w := by
  have h : LeavesInM Fence.wide n P fn a.tmps R a.defers .returning w := by
    rw [hd]
    exact ⟨by simp, .inl ⟨_, _, rfl, run_takeDeferred hK, ⟨v, hr, hR⟩⟩⟩
  rcases hx with rfl | rfl
  · exact h
  · exact h
/-- The four blocks that terms lays. -/
abbrev Four (B k : Nat) : Prop := B ≤ k ∧ k < B + 4
set_option maxRecDepth 100000 in
set_option maxHeartbeats 4000000 in
theorem terms_stops (n b : Nat) (s : ByteArray) (w : World) (hb : RowAt w b 9 [.string s]) (hs : s.size ≤ 1000000) (hA : AllS (splitA s.data.toList)) (hn : 3 ≤ n) :
    SeqT Fence.wide n Tryd.prog 29 #[.pointer (some ⟨b, 0, none⟩)] termArgs (fun B => KeptAt (Four B)) (fun ys => ys = (attS (splitA s.data.toList) hA).map termS) (fun pre => pre <+: (attS (splitA s.data.toList) hA).map termS) (splitA s.data.toList).length 4 (fun B r => r = B + 1) w := fun l J Jx W hW hl hJ hJx hY h0 => by
  replace hb : RowAt W b 9 [.string s] := hb.below hW hb.lt
  clear hW w
  obtain ⟨b0, b1, b2⟩ := hb.one
  refine callsIn_of_wp_marks Tryd.func29 rfl trivial ?_
  simp only [Tryd.ntmps29, List.size_toArray, List.length_cons, List.length_nil, Nat.reduceAdd, Nat.reduceSub, Array.replicate_succ, Array.replicate_zero, List.push_toArray, List.append_toArray, List.nil_append, List.cons_append]
  gi_wp2
  refine ⟨trivial, free_wide.room, (callsIn_wide.2 (splitSeq_any _ _)).mono ?_⟩
  rintro e w' ⟨rfl, rfl⟩
  gi_wp2
  obtain ⟨V, hV⟩ : ∃ V, (((W.alloc (.cells #[.func (.yield l) #[] #[]] 26)).alloc (.cells #[.string s] 9)).alloc (.cells #[.string ⟨#[59]⟩] 9)).alloc (.cells #[.int .i64 0] 3) = V := ⟨_, rfl⟩
  rw [hV]
  have hVs : V.heap.size = W.heap.size + 4 := by rw [← hV]; simp
  have rY : RowAt V W.heap.size 26 [.func (.yield l) #[] #[]] := by rw [← hV]; exact (((RowAt.of_new _ _ _).alloc _).alloc _).alloc _
  have r1 : RowAt V (W.heap.size + 1) 9 [.string s] := by rw [← hV]; exact ((RowAt.new_at (W.alloc (.cells #[.func (.yield l) #[] #[]] 26)) #[.string s] _ _ (by simp)).alloc _).alloc _
  have r2 : RowAt V (W.heap.size + 1 + 1) 9 [.string ⟨#[59]⟩] := by rw [← hV]; exact (RowAt.new_at ((W.alloc (.cells #[.func (.yield l) #[] #[]] 26)).alloc (.cells #[.string s] 9)) #[.string ⟨#[59]⟩] _ _ (by simp)).alloc _
  have r3 : RowAt V (W.heap.size + 1 + 2) 3 [.int .i64 0] := by rw [← hV]; exact RowAt.new_at (((W.alloc (.cells #[.func (.yield l) #[] #[]] 26)).alloc (.cells #[.string s] 9)).alloc (.cells #[.string ⟨#[59]⟩] 9)) #[.int .i64 0] _ _ (by simp)
  have hJV : J [] V := by rw [← hV]; exact hJ.alloc _ (hJ.alloc _ (hJ.alloc _ (hJ.alloc _ h0)))
  clear hV h0
  refine wpIn_rangeFunc_turn (F := Fence.wide) (n := n) rfl (by omega) (gf := 55) (lb := #[.pointer (some ⟨W.heap.size + 1 + 1, 0, none⟩), .pointer (some ⟨W.heap.size + 1, 0, none⟩), .pointer (some ⟨W.heap.size + 1 + 2, 0, none⟩)]) rfl trivial
    (enters_of Tryd.func55 (by kernel_rfl) rfl)
    (split_stops (n - 1) (W.heap.size + 1) s V r1 r2 r3 hs hA) (by rintro r rfl; omega) KeptAt.trans (fun X l' o o' h1 h2 _ _ _ => fun k hk => World.putObj_heap_other (by rcases hk with rfl | rfl | rfl <;> omega)) (Below.refl _ _) (fun _ => rfl)
    (fun pre X => (J (pre.map termS) X ∧ RowAt X W.heap.size 26 [.func (.yield l) #[] #[]]) ∧ W.heap.size + 4 ≤ X.heap.size)
    (fun c pre X => c = Code.ret ∧ Jx (pre.map termS) X)
    (OwnTurn.and (OwnTurn.and (fun pre X Y row hs hg hr => hJ _ X Y row hs hg (fun r e => by
        rcases hr r e with ⟨h1, h2⟩ | h1
        · exact .inl ⟨by omega, h2⟩
        · exact .inr h1)) (fun pre X Y row hs hg hr => hs.turn hg hr (by show ¬ W.heap.size = W.heap.size + 1; omega))) (fun pre X Y row hs hg hr => Nat.le_trans hs hg.size))
    (fun c => OwnTurn.and (ownTurn_pure _ _ _) (fun pre X Y row hs hg hr => hJx _ X Y row hs hg (fun r e => by
        rcases hr r e with ⟨h1, h2⟩ | h1
        · exact .inl ⟨by omega, h2⟩
        · exact .inr h1)))
    ⟨⟨hJV, rY⟩, by omega⟩
    (fun x a' _ => a' = { tmps := #[.func (.yield l) #[] #[], .pointer (some ⟨b, 0, none⟩), .pointer (some ⟨W.heap.size, 0, none⟩), .string ⟨x.1.toArray⟩, undef, undef, undef, .string s, .func (.func 55) #[] #[.pointer (some ⟨W.heap.size + 1 + 1, 0, none⟩), .pointer (some ⟨W.heap.size + 1, 0, none⟩), .pointer (some ⟨W.heap.size + 1 + 2, 0, none⟩)], .string ⟨x.1.toArray⟩, undef, undef, undef, undef, undef, undef, undef, undef, undef, undef, undef, undef, undef, undef], defers := [] })
    (fun x a' => ownTurn_pure _ _ _)
    ?assign ?body ?done ?stop
  case assign =>
    rintro l' pre x X K hsz hI hK
    gi_wp2
    exact hK _ _ (KeepsFrom.refl _ _) (fun _ _ => rfl) hI rfl
  case body =>
    rintro l' pre x a' X hl' hr hsz ⟨⟨hJX, hYX⟩, hXs⟩ rfl hlt
    obtain ⟨y0, y1, y2⟩ := hYX.one
    have hxs : (⟨x.1.toArray⟩ : ByteArray).size ≤ 1000000 := by
      have := x.2
      show x.1.toArray.size ≤ _
      simpa using this
    have hcut := cut_any ⟨x.1.toArray⟩ X hxs
    have hcon := fun Z => Tryd.strings_Contains_one ⟨x.1.toArray⟩ 61 Z
    have hxd : (⟨x.1.toArray⟩ : ByteArray).data.toList = x.1 := rfl
    rw [hxd] at hcut hcon
    obtain ⟨A, B, N, c, e1, e2, e3, e4, e5⟩ := term_ways x
    rw [e1, e2] at hcut
    rw [e3] at hcon
    have hy0 := fun Z h1 h2 => hY (pre.map termS) (termS x) Z h1 h2 (by simpa using hlt)
    rw [e5] at hy0
    clear e1 e2 e3 e5
    have hend : ∀ (X3 X4 : World), Below X.heap.size X X3 → KeptAt (Four W.heap.size) X3 X4 → KeepsFrom W.heap.size X3 X4 → J (pre.map termS ++ [termS x]) X4 →
        KeepsFrom V.heap.size X X4 ∧ KeptAt (Sep (W.heap.size + 1)) X X4 ∧ ((J ((pre ++ [x]).map termS) X4 ∧ RowAt X4 W.heap.size 26 [.func (.yield l) #[] #[]]) ∧ W.heap.size + 4 ≤ X4.heap.size) := fun X3 X4 hb hk hf hj => by
      have hbs := hb.size
      have hfs := hf.size
      refine ⟨keepsFrom_mono ((keepsFrom_below hb : KeepsFrom W.heap.size X X3).trans hf) (by omega), fun k hk2 => (hk k (by rcases hk2 with rfl | rfl | rfl <;> (constructor <;> omega))).trans (hb.block k (by rcases hk2 with rfl | rfl | rfl <;> omega)), ⟨by rw [List.map_append]; exact hj, hYX.same ((hk _ (by constructor <;> omega)).trans (hb.block _ (by omega)))⟩, by omega⟩
    have hbad : ∀ (X3 X4 : World), Below X.heap.size X X3 → KeepsFrom W.heap.size X3 X4 → Jx (pre.map termS ++ [termS x]) X4 → KeepsFrom V.heap.size X X4 ∧ (Code.ret = Code.ret ∧ Jx ((pre ++ [x]).map termS) X4) := fun X3 X4 hb hf hj =>
      ⟨keepsFrom_mono ((keepsFrom_below hb : KeepsFrom W.heap.size X X3).trans hf) (by omega), rfl, by rw [List.map_append]; exact hj⟩
    have HE := Lib.hid (And.intro hend hbad)
    clear hend hbad
    gi_wp2
    refine ⟨trivial, (free_round l').room, (CallsIn.inRound l' (callsIn_wide.2 hcut)).mono ?_⟩
    rintro e X2 ⟨⟨ok, rfl⟩, hB2⟩
    have hJ2 := hJ _ X X2 none hJX (grown_below hB2) (fun r e => by cases e)
    have s2 := hB2.size
    obtain ⟨fn, tmps, assign, body, hy, hRd⟩ := hy0 X2 hJ2 (by omega)
    have y0' : X2.cell? ⟨W.heap.size, 0, none⟩ = some (.func (.yield l) #[] #[]) := (hB2.cell (p := ⟨W.heap.size, 0, none⟩) (by show W.heap.size < _; omega)).trans y0
    clear hy0 y0 hcut hJ2
    gi_wp2
    refine ⟨trivial, (free_round l').room, (CallsIn.inRound l' (callsIn_wide.2 (hcon X2))).mono ?_⟩
    rintro e X3 ⟨rfl, rfl⟩
    cases c
    · simp only [Bool.false_eq_true, if_false] at e4
      subst e4
      gi_wp2
      refine ⟨(free_round l').room, (roundIn_any _ l' hRd).mono ?_⟩
      rintro e X4 (⟨rfl, hJ4, hk4, hf4⟩ | ⟨rfl, hJx4, hf4⟩)
      · gi_wp2
        exact HE.out.1 _ _ hB2 hk4 hf4 hJ4
      · gi_wp2
        obtain ⟨q1, -, q3⟩ := HE.out.2 _ _ hB2 hf4 hJx4
        exact ⟨q1, rfl, q3⟩
    · simp only [if_true] at e4
      subst e4
      gi_wp2
      refine ⟨(free_round l').room, (roundIn_any _ l' hRd).mono ?_⟩
      rintro e X4 (⟨rfl, hJ4, hk4, hf4⟩ | ⟨rfl, hJx4, hf4⟩)
      · gi_wp2
        exact HE.out.1 _ _ hB2 hk4 hf4 hJ4
      · gi_wp2
        obtain ⟨q1, -, q3⟩ := HE.out.2 _ _ hB2 hf4 hJx4
        exact ⟨q1, rfl, q3⟩
  case done =>
    rintro D xs X hD rfl ⟨⟨hJX, -⟩, -⟩ hK
    gi_wp2
    exact bodyPostM_none (.inl rfl) hK (results_none rfl _ _ _) rfl ⟨⟨_, rfl⟩, .inl ⟨_, rfl, hJ.putObj _ hJX (by omega) hK rfl⟩⟩
  case stop =>
    rintro D c pre X hD hpre ⟨rfl, hJX⟩ hK
    gi_wp2
    exact bodyPostM_none (.inr rfl) hK (results_none rfl _ _ _) rfl ⟨⟨_, rfl⟩, .inr ⟨_, hpre.map _, hJx.putObj _ hJX (by omega) hK rfl⟩⟩
end Go.Proofs.YtjhdgpboofcelaaDoor
