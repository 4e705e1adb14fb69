/- Package scope: Fits. -/
import Derived.Test.YtjhdgpboofcelaaDoorSC
import Derived.Laws.IdiomStrings
namespace Go.Proofs.YtjhdgpboofcelaaDoor
open Go.RowKit Go.Maps
open Go.Lib (decodeL validD)

/-- Does a text that is a pattern stand for a text? -/
def fitsA (p v : List UInt8) : Bool := match pcsA p with
  | none => false
  | some ps => validD v && matchP ps (codes v)
theorem runesFrom_codes (s : ByteArray) : ∀ (n pos : Nat) (acc : Array Value), s.size ≤ pos + n → validD (s.data.toList.drop pos) = true →
    (Conv.runesFrom s n pos acc).toList = acc.toList ++ (codes (s.data.toList.drop pos)).map fun c => .int .i32 (c : Int)
  | 0, pos, acc, h, _ => by
    rw [List.drop_eq_nil_of_le (by rw [data_length]; omega)]
    simp [Conv.runesFrom, codes_nil]
  | n + 1, pos, acc, h, hv => by
    unfold Conv.runesFrom
    by_cases hp : pos < s.size
    · obtain ⟨r, k, hd, hk1, hk2, -, -, e2, -⟩ := rune_at s pos hp
      rw [e2] at hv
      have hbad : ¬ (r = 65533 ∧ k = 1) := by
        intro hb
        rw [if_pos hb] at hv
        cases hv
      rw [if_neg hbad] at hv
      rw [if_pos hp, codes_at s pos r k hp hd hbad, hd]
      simp only
      rw [runesFrom_codes s n (pos + k) _ (by omega) hv]
      simp
    · rw [if_neg hp, List.drop_eq_nil_of_le (by rw [data_length]; omega)]
      simp [codes_nil]
theorem pcsF_length : ∀ (l : List Nat) (e : Bool), (pcsF e l).1.length ≤ l.length
  | [], _ => Nat.le_refl _
  | r :: l, e => by
    have h1 := pcsF_length l false
    have h2 := pcsF_length l true
    rw [pcsF]
    split
    · simp; omega
    · split
      · simp; omega
      · simp; omega
theorem pcs_length (s : ByteArray) : (pcsOf s.data.toList).1.length ≤ s.size := by
  have h1 := pcsF_length (codes s.data.toList) false
  have h2 := runes_le s.data.toList
  rw [data_length] at h2
  rw [codes_length] at h1
  unfold pcsOf
  omega
theorem fP_start (C : List Nat) (a : Int) : (if a = 0 then (1 : Int) else 0) = fP [] C a := by
  unfold fP
  by_cases h : 0 ≤ a ∧ a ≤ C.length
  · rw [if_pos h, atP_nil C a.toNat (by omega)]
    by_cases h0 : a = 0
    · subst h0; rfl
    · rw [if_neg h0, decide_eq_false (by omega)]; rfl
  · rw [if_neg h, if_neg (by omega)]
set_option maxRecDepth 100000 in
set_option maxHeartbeats 2000000 in
theorem fits_no (p v : ByteArray) (w : World) (hp : p.size ≤ 1000000) (hv : v.size ≤ 10000) (hN : pcsA p.data.toList = none ∨ validD v.data.toList = false) :
    Calls Tryd.prog 8 #[.string p, .string v] w fun e w' => e = .returned (.bool false) ∧ Below w.heap.size w w' := by
  have hR := fun W => runes_any v W (by omega)
  have hx : ∃ V n, (∀ W, Calls Tryd.prog 6 #[.string v] W fun e w' => e = .returned (.tuple #[.int .i64 n, .bool V]) ∧ Below W.heap.size W w') ∧ V = validD v.data.toList := ⟨_, _, hR, rfl⟩
  clear hR
  obtain ⟨V, n, hR, hV⟩ := hx
  by_cases hval : valueB p.data.toList = true
  · have h1 := pieces_yes p w hp hval
    have hb : (!(pcsOf p.data.toList).2) = true → V = false := fun h => by
      rw [hV]
      rcases hN with hN | hN
      · unfold pcsA at hN
        rw [hval, h] at hN
        cases hN
      · exact hN
    generalize (!(pcsOf p.data.toList).2) = ok at *
    generalize (pcsOf p.data.toList).1 = ps at *
    clear hN hV hval
    cases ok
    · clear hb
      go_enter Tryd.func8, Tryd.ntmps8
      go_wp2_with fail
      refine h1.mono ?_
      rintro e w1 ⟨hB, u, rfl, -⟩
      have s1 := hB.size
      go_wp2_with fail
      refine (hR _).mono ?_
      rintro e w2 ⟨rfl, hB2⟩
      go_wp2_with fail
      go_ret
      exact ⟨rfl, hB.trans (hB2.mono s1)⟩
    · obtain rfl := hb rfl
      clear hb
      go_enter Tryd.func8, Tryd.ntmps8
      go_wp2_with fail
      refine h1.mono ?_
      rintro e w1 ⟨hB, u, rfl, -⟩
      have s1 := hB.size
      go_wp2_with fail
      refine (hR _).mono ?_
      rintro e w2 ⟨rfl, hB2⟩
      go_wp2_with fail
      go_ret
      exact ⟨rfl, hB.trans (hB2.mono s1)⟩
  · have h1 := pieces_no p w hp (by simpa using hval)
    clear hN hV hval
    go_enter Tryd.func8, Tryd.ntmps8
    go_wp2_with fail
    refine h1.mono ?_
    rintro e w1 ⟨rfl, hB⟩
    have s1 := hB.size
    go_wp2_with fail
    refine (hR _).mono ?_
    rintro e w2 ⟨rfl, hB2⟩
    go_wp2_with fail
    go_ret
    exact ⟨rfl, hB.trans (hB2.mono s1)⟩
set_option maxRecDepth 100000 in
set_option maxHeartbeats 4000000 in
theorem fits_yes (p v : ByteArray) (w : World) (hp : p.size ≤ 1000000) (hv : v.size ≤ 10000) (ps : List Pc) (hps : pcsA p.data.toList = some ps) (hV : validD v.data.toList = true) :
    Calls Tryd.prog 8 #[.string p, .string v] w fun e w' => e = .returned (.bool (matchP ps (codes v.data.toList))) ∧ Below w.heap.size w w' := by
  have hx : valueB p.data.toList = true ∧ (!(pcsOf p.data.toList).2) = true ∧ (pcsOf p.data.toList).1 = ps := by
    unfold pcsA at hps
    by_cases h : (valueB p.data.toList && !(pcsOf p.data.toList).2) = true
    · rw [if_pos h] at hps
      rw [Bool.and_eq_true] at h
      exact ⟨h.1, h.2, Option.some.inj hps⟩
    · rw [if_neg h] at hps
      cases hps
  obtain ⟨hx1, hx2, hx3⟩ := hx
  have hpl := pcs_length p
  rw [hx3] at hpl
  have h1 := pieces_yes p w hp hx1
  rw [hx2, hx3] at h1
  have hR := fun W => runes_any v W (by omega)
  rw [hV, if_pos rfl] at hR
  have hrf := runesFrom_codes v v.size 0 #[] (by omega) (by simpa using hV)
  rw [List.drop_zero] at hrf
  simp only [List.nil_append] at hrf
  have hcl : (codes v.data.toList).length ≤ 10000 := by
    rw [codes_length]
    have := runes_le v.data.toList
    rw [data_length] at this
    omega
  have hfin := atP_all ps (codes v.data.toList)
  generalize (runes v.data.toList).length = n at *
  generalize codes v.data.toList = C at *
  have hasz : (Conv.runesFrom v v.size 0 #[]).size = C.length := by
    rw [← Array.length_toList, hrf]
    simp
  have hconv := fun W => run_runes_of_string (P := Tryd.prog) W 9 41 21 v Tryd.underlying9 Tryd.underlying41 Tryd.underlying21 (by rw [hasz]; omega)
  rw [hasz] at hconv
  have hmm := @run_makeMap Tryd.prog
  have HF := Lib.hid (And.intro hrf (And.intro hasz hfin))
  generalize Conv.runesFrom v v.size 0 #[] = A at *
  clear hrf hasz hfin hx1 hx2 hx3 hps hV
  go_enter Tryd.func8, Tryd.ntmps8
  go_wp2_with fail
  refine h1.mono ?_
  rintro e w1 ⟨hB1, u, rfl, hP1⟩
  have s1 := hB1.size
  go_wp2_with fail
  refine (hR _).mono ?_
  rintro e w2 ⟨rfl, hB2⟩
  have C2 := hB1.trans (hB2.mono s1)
  have s2 := C2.size
  have hP2 := hP1.at_ hB2
  have hc2 := hconv w2
  generalize grownCap w2 C.length 0 21 = cap at hc2
  obtain ⟨V, hVV⟩ : ∃ V, V = (w2.drew.alloc (.cells (A ++ Array.replicate (cap - C.length) (.int .i32 0)) 21)) := ⟨_, rfl⟩
  rw [← hVV] at hc2
  have hCV : Below w.heap.size w V := by rw [hVV]; exact C2.drew.alloc s2 _
  have hPV : PcsAt V u ps := hP2.at_ (by rw [hVV]; exact (Below.refl _ w2).drew.alloc (Nat.le_refl _) _)
  have hcV : CodesAt V (some ⟨w2.heap.size, 0, none⟩) C := fun _ => by
    have r : RowAt V w2.heap.size 21 (A ++ Array.replicate (cap - C.length) (Value.int .i32 0)).toList := by rw [hVV]; exact RowAt.new_at w2.drew (A ++ Array.replicate (cap - C.length) (.int .i32 0)) 21 w2.heap.size rfl
    refine ⟨_, _, rfl, r.lt, fun i hi => ?_⟩
    have hiA : i < A.toList.length := by rw [HF.out.1]; simpa using hi
    rw [Nat.zero_add, r.cell i (by rw [Array.toList_append, List.length_append]; omega)]
    simp only [Array.toList_append]
    rw [List.getElem_append_left hiA]
    simp [HF.out.1]
  obtain ⟨W, hW, hPW, hTW⟩ := (PlacesAt.made V).put (a := 0) (x := 1) (by omega) (by omega) (by omega)
  have hPW := hPW.mono (Nat.le_refl _) (fP_start C)
  have hBVW : Below V.heap.size V W := ((Below.refl _ V).alloc (Nat.le_refl _) (.map #[] 0)).trans (below_turnedP hTW (Nat.le_refl _))
  have hCW := hCV.trans (hBVW.mono hCV.size)
  have hPsW := hPV.at_ hBVW
  have hcW : CodesAt W (some ⟨w2.heap.size, 0, none⟩) C := fun hne => by
    obtain ⟨a, off, e1, e2, e3⟩ := hcV hne
    exact ⟨a, off, e1, Nat.lt_of_lt_of_le e2 hBVW.size, fun i hi => (hBVW.cell (by exact e2)).trans (e3 i hi)⟩
  clear hP1 hB1 hB2 s1 hconv hVV hTW hCV hPV hcV hBVW hP2 C2 s2
  obtain ⟨q, qc, rfl, hq⟩ := id hPsW
  go_wp2_with fail
  generalize V.heap.size = bm at *
  clear hc2 hW hmm
  go_loopw [10, 35] (fun m i wr => ∃ (k b n : Nat), m = .map (some b) ∧ i = .int .i64 k ∧ k ≤ ps.length ∧ PlacesAt wr b n (fP (ps.take k) C) ∧ PcsAt wr (.slice q ps.length qc) ps ∧ CodesAt wr (some ⟨w2.heap.size, 0, none⟩) C ∧ Below w.heap.size w wr)
    (fun _ i _ => ps.length - (intOf i).toNat)
  case atStart => exact ⟨0, _, _, rfl, rfl, Nat.zero_le _, hPW, hPsW, hcW, hCW⟩
  case round =>
    rename_i wr
    clear hPW hPsW hcW hCW hq
    obtain ⟨k, b, n2, rfl, rfl, hk, hM, hP, hC, hB⟩ := hrel
    have hBs := hB.size
    by_cases hkl : k < ps.length
    · have hki : (k : Int) < ps.length := by omega
      have hts : ps.take (k + 1) = ps.take k ++ [ps[k]] := List.take_succ_eq_append_getElem hkl
      obtain ⟨q', qc', he, hq⟩ := id hP
      simp only [Value.slice.injEq, true_and] at he
      obtain ⟨rfl, rfl⟩ := he
      obtain ⟨a, off, rfl, ha, hcc⟩ := hq (by rintro rfl; simp at hkl)
      have hc := hcc k hkl
      have haf := after_any (ps.take k) ps[k] C b n2 (some ⟨w2.heap.size, 0, none⟩) cap wr hM hcl hC
      rw [← hts] at haf
      have HP := Lib.hid hP
      have HC := Lib.hid hC
      clear hcc hq hP hC hM hts
      generalize ps[k] = x at *
      go_wp2_with fail
      refine haf.mono ?_
      rintro e w3 ⟨b3, rfl, hB3, hM3⟩
      go_wp2_with fail
      go_roundw
      case rel => exact ⟨k + 1, b3, _, rfl, by go_num, by omega, hM3, HP.out.at_ hB3, fun hne => by
        obtain ⟨a', off', e1, e2, e3⟩ := HC.out hne
        exact ⟨a', off', e1, Nat.lt_of_lt_of_le e2 hB3.size, fun i hi => (hB3.cell (by exact e2)).trans (e3 i hi)⟩, hB.trans (hB3.mono hBs)⟩
      case measure => simp [intOf]; omega
    · have hki : ¬ (k : Int) < ps.length := by omega
      rw [List.take_of_length_le (by omega)] at hM
      have hl := hM.look (a := (C.length : Nat)) (by omega)
      rw [fP_at _ _ _ (Nat.le_refl _), HF.out.2.2] at hl
      clear hP hC hM
      cases hX : matchP ps C <;> rw [hX] at hl
      · simp only [plc, Bool.false_eq_true, if_false] at hl
        go_wp2_with fail
        go_ret
        exact ⟨by simp [hX], hB⟩
      · simp only [plc, if_true] at hl
        go_wp2_with fail
        go_ret
        exact ⟨by simp [hX], hB⟩
theorem fits_any (p v : ByteArray) (w : World) (hp : p.size ≤ 1000000) (hv : v.size ≤ 10000) :
    Calls Tryd.prog 8 #[.string p, .string v] w fun e w' => e = .returned (.bool (fitsA p.data.toList v.data.toList)) ∧ Below w.heap.size w w' := by
  unfold fitsA
  cases hps : pcsA p.data.toList with
  | none => exact fits_no p v w hp hv (.inl hps)
  | some ps =>
    simp only
    cases hV : validD v.data.toList
    · exact fits_no p v w hp hv (.inr hV)
    · rw [Bool.true_and]
      exact fits_yes p v w hp hv ps hps hV
end Go.Proofs.YtjhdgpboofcelaaDoor
