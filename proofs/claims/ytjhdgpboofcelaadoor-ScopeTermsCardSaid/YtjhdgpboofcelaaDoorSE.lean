/- strings.SplitSeq at a semicolon, strings.Cut at a sign. -/
import Derived.Test.YtjhdgpboofcelaaDoorRT
import Derived.Test.YtjhdgpboofcelaaDoorLB
import Derived.Test.YtjhdgpboofcelaaDoorC4
import Derived.Lib.IndexLaws
namespace Go.Proofs.YtjhdgpboofcelaaDoor
open Go.RowKit
attribute [local go_sem] Oper.semAt_some

/-- A text's parts, between semicolons. -/
def splitA : List UInt8 → List (List UInt8)
  | [] => [[]]
  | c :: l => if c = 59 then [] :: splitA l else match splitA l with
    | [] => [[c]]
    | x :: xs => (c :: x) :: xs
theorem split_none : ∀ (l : List UInt8), Lib.indexByte l 59 = -1 → splitA l = [l]
  | [], _ => rfl
  | c :: l, h => by
    rw [Lib.indexByte] at h
    by_cases hc : c = 59
    · subst hc
      simp at h
    · have hb : (c == 59) = false := by simpa using hc
      rw [hb] at h
      simp only [Bool.false_eq_true, if_false] at h
      have hn : Lib.indexByte l 59 = -1 := by
        by_cases h2 : Lib.indexByte l 59 = -1
        · exact h2
        · have := Lib.indexByte_ge l 59
          have e : (Lib.indexByte l 59 == -1) = false := by simpa using h2
          rw [e] at h
          simp only [Bool.false_eq_true, if_false] at h
          omega
      rw [splitA, if_neg hc, split_none l hn]
theorem split_some : ∀ (l : List UInt8) (i : Nat), Lib.indexByte l 59 = i → i < l.length ∧ splitA l = l.take i :: splitA (l.drop (i + 1))
  | [], i, h => by
    have h' : (-1 : Int) = i := h
    omega
  | c :: l, i, h => by
    rw [Lib.indexByte] at h
    by_cases hc : c = 59
    · subst hc
      simp only [beq_self_eq_true, if_true] at h
      obtain rfl : i = 0 := by omega
      refine ⟨by simp, ?_⟩
      rw [splitA, if_pos rfl]
      rfl
    · have hb : (c == 59) = false := by simpa using hc
      rw [hb] at h
      simp only [Bool.false_eq_true, if_false] at h
      by_cases h2 : Lib.indexByte l 59 = -1
      · have e : (Lib.indexByte l 59 == -1) = true := by simpa using h2
        rw [e] at h
        simp only [if_true] at h
        omega
      · have e : (Lib.indexByte l 59 == -1) = false := by simpa using h2
        have hge := Lib.indexByte_ge l 59
        rw [e] at h
        simp only [Bool.false_eq_true, if_false] at h
        obtain ⟨j, rfl⟩ : ∃ j, i = j + 1 := ⟨i - 1, by omega⟩
        obtain ⟨h3, h4⟩ := split_some l j (by omega)
        refine ⟨by simp; omega, ?_⟩
        rw [splitA, if_neg hc, h4]
        rfl
theorem split_ne (l : List UInt8) : splitA l ≠ [] := by
  cases l with
  | nil => simp [splitA]
  | cons c l =>
    rw [splitA]
    split
    · simp
    · split <;> simp
/-- Texts that are not too long. -/
abbrev SB : Type := { x : List UInt8 // x.length ≤ 1000000 }
instance : Inhabited SB := ⟨⟨[], by decide⟩⟩
abbrev AllS (xs : List (List UInt8)) : Prop := ∀ x ∈ xs, x.length ≤ 1000000
def attS (xs : List (List UInt8)) (h : AllS xs) : List SB := xs.pmap (fun x hx => ⟨x, hx⟩) h
theorem attS_map (xs : List (List UInt8)) (h : AllS xs) : (attS xs h).map (·.1) = xs := by
  unfold attS
  induction xs with
  | nil => rfl
  | cons x xs ih => simp only [List.pmap_cons, List.map_cons]; rw [ih]
theorem attS_eq {xs ys : List (List UInt8)} (e : xs = ys) (h : AllS xs) (k : AllS ys) : attS xs h = attS ys k := by
  subst e
  rfl
theorem splitA_all : ∀ (n : Nat) (l : List UInt8), l.length ≤ n → n ≤ 1000000 → AllS (splitA l) := by
  intro n l hl hn
  suffices h : ∀ (l : List UInt8), ∀ x ∈ splitA l, x.length ≤ l.length by
    intro x hx
    have := h l x hx
    omega
  intro l
  induction l with
  | nil => intro x hx; simp [splitA] at hx; subst hx; simp
  | cons c l ih =>
    intro x hx
    rw [splitA] at hx
    split at hx
    · rcases List.mem_cons.1 hx with rfl | hx
      · simp
      · have := ih x hx; simp; omega
    · split at hx
      · simp at hx; subst hx; simp
      · rename_i y ys he
        rcases List.mem_cons.1 hx with rfl | hx
        · have := ih y (by rw [he]; simp); simp; omega
        · have := ih x (by rw [he]; simp [hx]); simp; omega
abbrev partArgs (x : SB) : Array Value := #[.string ⟨x.1.toArray⟩]
abbrev Sep (cs : Nat) (k : Nat) : Prop := k = cs ∨ k = cs + 1 ∨ k = cs + 2
def cellLen (cs : Nat) (w : World) : Nat := match w.cell? ⟨cs, 0, none⟩ with
  | some (.string s) => s.size
  | _ => 0
theorem cellLen_of {cs : Nat} {w : World} {s : ByteArray} (h : w.cell? ⟨cs, 0, none⟩ = some (.string s)) : cellLen cs w = s.size := by
  unfold cellLen
  rw [h]
set_option maxRecDepth 100000 in
set_option maxHeartbeats 2000000 in
theorem split_stops (n cs : Nat) (s : ByteArray) (w : World) (h1 : RowAt w cs 9 [.string s]) (h2 : RowAt w (cs + 1) 9 [.string ⟨#[59]⟩]) (h3 : RowAt w (cs + 2) 3 [.int .i64 0]) (hs : s.size ≤ 1000000) (hA : AllS (splitA s.data.toList)) :
    SeqT Fence.wide n Tryd.prog 55 #[.pointer (some ⟨cs + 1, 0, none⟩), .pointer (some ⟨cs, 0, none⟩), .pointer (some ⟨cs + 2, 0, none⟩)] partArgs (fun _ => KeptAt (Sep cs)) (fun ys => ys = attS (splitA s.data.toList) hA) (fun pre => pre <+: attS (splitA s.data.toList) hA) (splitA s.data.toList).length 0 (fun _ r => r = cs) w := fun l J Jx W hW hl hJ hJx hY h0 => by
  replace h1 : RowAt W cs 9 [.string s] := h1.below hW h1.lt
  replace h2 : RowAt W (cs + 1) 9 [.string ⟨#[59]⟩] := h2.below hW h2.lt
  replace h3 : RowAt W (cs + 2) 3 [.int .i64 0] := h3.below hW h3.lt
  clear hW w
  generalize hALL : attS (splitA s.data.toList) hA = ALL at *
  have hN : (splitA s.data.toList).length = ALL.length := by rw [← hALL]; simp [attS]
  rw [hN] at hY
  have hIx := fun (R : ByteArray) W => Tryd.strings_Index_one R 59 W
  obtain ⟨a0, a1, a2⟩ := h1.one
  obtain ⟨b0, b1, b2⟩ := h2.one
  obtain ⟨c0, c1, c2⟩ := h3.one
  have hstart : ∃ hR : AllS (splitA s.data.toList), [] ++ attS (splitA s.data.toList) hR = ALL := ⟨hA, hALL⟩
  have HS := Lib.hid hstart
  clear hstart hALL hN
  refine callsIn_of_wp Tryd.func55 rfl trivial ?_
  simp only [Tryd.ntmps55, List.size_toArray, List.length_cons, List.length_nil, Nat.reduceAdd, Nat.reduceSub, Array.replicate_succ, Array.replicate_zero, List.push_toArray, List.append_toArray, List.nil_append, List.cons_append]
  have hsz59 : (⟨#[59]⟩ : ByteArray).size = 1 := rfl
  gi_wp2
  gi_loopw [] (fun wr => ∃ (pre : List SB) (R : ByteArray) (hR : AllS (splitA R.data.toList)), RowAt wr cs 9 [.string R] ∧ RowAt wr (cs + 1) 9 [.string ⟨#[59]⟩] ∧ RowAt wr (cs + 2) 3 [.int .i64 0] ∧ J pre wr ∧ pre ++ attS (splitA R.data.toList) hR = ALL ∧ W.heap.size ≤ wr.heap.size ∧ R.size ≤ 1000000)
    (fun wr => cellLen cs wr)
  case atStart =>
    obtain ⟨hR, e⟩ := HS.out
    exact ⟨[], s, hR, h1, h2, h3, h0, e, Nat.le_refl _, hs⟩
  case round =>
    clear HS h1 h2 h3 a0 a1 a2 b0 b1 b2 c0 c1 c2 h0 hs hA
    rename_i wr
    obtain ⟨pre, R, hR, h1, h2, h3, hJr, hall, hWr, hRs⟩ := hrel
    obtain ⟨a0, a1, a2⟩ := h1.one
    obtain ⟨b0, b1, b2⟩ := h2.one
    obtain ⟨c0, c1, c2⟩ := h3.one
    have hix := hIx R
    by_cases hneg : Lib.indexByte R.data.toList 59 = -1
    · have hsp := split_none _ hneg
      rw [hneg] at hix
      have hRl : R.data.toList.length ≤ 1000000 := by rw [data_length]; exact hRs
      have hx : attS (splitA R.data.toList) hR = [⟨R.data.toList, hRl⟩] := by
        rw [attS_eq hsp hR (hsp ▸ hR)]
        rfl
      rw [hx] at hall
      have hlen : pre.length < ALL.length := by rw [← hall]; simp
      obtain ⟨fn, tmps, assign, body, hy, hRd⟩ := hY pre ⟨R.data.toList, hRl⟩ wr hJr hWr hlen
      have hmk : (⟨R.data.toList.toArray⟩ : ByteArray) = R := ByteArray.ext (by simp)
      have hy2 : (Instr.yield l #[.string R]).run Tryd.prog wr = .ok (.round l fn tmps assign body) wr := by rw [← hmk]; exact hy
      have HX := Lib.hid hall
      clear hIx hneg hx hall hsp hR hy hmk
      gi_wp2
      refine ⟨trivial, free_wide.room, (callsIn_wide.2 (hix _)).mono ?_⟩
      rintro e w' ⟨rfl, rfl⟩
      gi_wp2
      refine ⟨free_wide.room, hRd.mono ?_⟩
      rintro e W3 (⟨rfl, hJ3, -, -⟩ | ⟨rfl, hJx3, -⟩)
      · gi_wp2
        go_end0
        exact ⟨⟨_, rfl⟩, .inl ⟨_, HX.out, hJ3⟩⟩
      · gi_wp2
        go_end0
        exact ⟨⟨_, rfl⟩, .inr ⟨_, ⟨[], by rw [List.append_nil]; exact HX.out⟩, hJx3⟩⟩
    · obtain ⟨i, hi⟩ : ∃ i : Nat, Lib.indexByte R.data.toList 59 = i := ⟨(Lib.indexByte R.data.toList 59).toNat, by have := Lib.indexByte_ge R.data.toList 59; omega⟩
      rw [hi] at hix
      obtain ⟨hil, hsp⟩ := split_some _ i hi
      rw [data_length] at hil
      have hRl : (R.data.toList.take i).length ≤ 1000000 := by rw [List.length_take]; omega
      have hR2 : AllS (splitA (R.data.toList.drop (i + 1))) := splitA_all _ _ (Nat.le_refl _) (by rw [List.length_drop, data_length]; omega)
      have hx : attS (splitA R.data.toList) hR = ⟨R.data.toList.take i, hRl⟩ :: attS (splitA (R.data.toList.drop (i + 1))) hR2 := by
        rw [attS_eq hsp hR (hsp ▸ hR)]
        rfl
      rw [hx] at hall
      have hlen : pre.length < ALL.length := by rw [← hall]; simp
      obtain ⟨fn, tmps, assign, body, hy, hRd⟩ := hY pre ⟨R.data.toList.take i, hRl⟩ wr hJr hWr hlen
      have hall2 : (pre ++ [(⟨R.data.toList.take i, hRl⟩ : SB)]) ++ attS (splitA (R.data.toList.drop (i + 1))) hR2 = ALL := by rw [← hall]; simp
      have HX := Lib.hid hall2
      have hmk : R.extract 0 i = (⟨(R.data.toList.take i).toArray⟩ : ByteArray) := by
        apply ByteArray.ext
        apply Array.toList_inj.1
        rw [Lib.extract_data]
        simp
      have hy2 : (Instr.yield l #[.string (R.extract 0 i)]).run Tryd.prog wr = .ok (.round l fn tmps assign body) wr := by rw [hmk]; exact hy
      have htl := extract_tail R (i + 1)
      have hts : (R.extract (i + 1) R.size).size = R.size - (i + 1) := by rw [ByteArray.size_extract]; omega
      have hi0 : ¬ (i : Int) < 0 := by omega
      have hi1 : (i : Int) ≤ R.size := by omega
      have hi2 : (i : Int) + 1 ≤ R.size := by omega
      have hi3 : ((i : Int) + 1).toNat = i + 1 := by omega
      have HT := Lib.hid (And.intro htl hts)
      clear hIx hi hx hall hall2 hsp hR hy hmk htl hts
      gi_wp2
      refine ⟨trivial, free_wide.room, (callsIn_wide.2 (hix _)).mono ?_⟩
      rintro e w' ⟨rfl, rfl⟩
      gi_wp2
      refine ⟨free_wide.room, hRd.mono ?_⟩
      rintro e W3 (⟨rfl, hJ3, hk3, hf3⟩ | ⟨rfl, hJx3, -⟩)
      · have r1 := h1.same (hk3 cs (.inl rfl))
        have r2 := h2.same (hk3 (cs + 1) (.inr (.inl rfl)))
        have r3 := h3.same (hk3 (cs + 2) (.inr (.inr rfl)))
        obtain ⟨p0, p1, p2⟩ := r1.one
        obtain ⟨q0, q1, q2⟩ := r2.one
        obtain ⟨t0, t1, t2⟩ := r3.one
        have s3 := hf3.size
        gi_wp2
        have hJ4 := hJ _ W3 _ (some cs) hJ3 (grownBy_setCell' W3 cs (.string (R.extract (i + 1) R.size))) (fun r e => by cases e; exact .inr rfl)
        have hRR : AllS (splitA (R.extract (i + 1) R.size).data.toList) := by rw [HT.out.1]; exact hR2
        have r4 := r1.set 0 (.string (R.extract (i + 1) R.size))
        have r5 := r2.setOther ⟨cs, 0, none⟩ (.string (R.extract (i + 1) R.size)) (by show cs + 1 ≠ cs; omega)
        have r6 := r3.setOther ⟨cs, 0, none⟩ (.string (R.extract (i + 1) R.size)) (by show cs + 2 ≠ cs; omega)
        refine ⟨⟨_, _, hRR, r4, r5, r6, hJ4, ?_, by rw [World.size_setCell]; omega, by rw [HT.out.2]; omega⟩, ?_⟩
        · rw [attS_eq (show splitA (R.extract (i + 1) R.size).data.toList = splitA (R.data.toList.drop (i + 1)) by rw [HT.out.1]) hRR hR2]
          exact HX.out
        · rw [cellLen_of (r4.cell 0 (by simp)), cellLen_of a0, HT.out.2]
          omega
      · gi_wp2
        refine bodyPost_ret (results_none rfl _ _ _) rfl ?_
        exact ⟨⟨_, rfl⟩, .inr ⟨_, ⟨_, HX.out⟩, hJx3⟩⟩
end Go.Proofs.YtjhdgpboofcelaaDoor
