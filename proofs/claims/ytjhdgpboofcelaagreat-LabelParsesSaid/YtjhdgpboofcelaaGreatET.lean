/- The references: Parse; LabelParses: the walk. -/
import Derived.Test.YtjhdgpboofcelaaGreatES
namespace Go.Proofs.YtjhdgpboofcelaaGreat
open Go.RowKit
open Go.Lib (decodeL validD)

theorem valR_size : ∀ (n : Nat) (l : List UInt8) (x : List UInt8 × List UInt8), l.length ≤ n → valR l = some x → x.1.length ≤ l.length
  | 0, l, x, hl, h => by
    obtain rfl : l = [] := List.eq_nil_of_length_eq_zero (by omega)
    simp only [valR, Option.some.injEq] at h
    subst h
    exact Nat.le_refl _
  | n + 1, [], x, hl, h => by
    simp only [valR, Option.some.injEq] at h
    subst h
    exact Nat.le_refl _
  | n + 1, c :: l, x, hl, h => by
    simp only [List.length_cons] at hl ⊢
    rw [valR.eq_def] at h
    simp only at h
    split at h
    · simp only [Option.some.injEq] at h
      subst h
      exact Nat.zero_le _
    · split at h
      · cases l with
        | nil => cases h
        | cons d l =>
          simp only [Option.map_eq_some_iff] at h
          obtain ⟨y, h1, h2⟩ := h
          subst h2
          simp only [List.length_cons] at hl ⊢
          have := valR_size n l y (by omega) h1
          omega
      · simp only [Option.map_eq_some_iff] at h
        obtain ⟨y, h1, h2⟩ := h
        subst h2
        have := valR_size n l y (by omega) h1
        simp only [List.length_cons]
        omega
theorem oneR_size : ∀ (l : List UInt8) (x : List UInt8 × List UInt8) (m : List UInt8), oneR l = some (x, m) → x.1.length ≤ l.length ∧ x.2.length ≤ l.length
  | [], _, _, h => by cases h
  | c :: l, x, m, h => by
    rw [oneR] at h
    split at h
    · simp only [Option.map_eq_some_iff] at h
      obtain ⟨y, h1, h2⟩ := h
      simp only [Prod.mk.injEq] at h2
      obtain ⟨rfl, -⟩ := h2
      have := valR_size _ l y (Nat.le_refl _) h1
      exact ⟨Nat.zero_le _, by simp only [List.length_cons]; omega⟩
    · simp only [Option.map_eq_some_iff] at h
      obtain ⟨⟨y, m'⟩, h1, h2⟩ := h
      simp only [Prod.mk.injEq] at h2
      obtain ⟨rfl, -⟩ := h2
      have := oneR_size l y m' h1
      simp only [List.length_cons]
      omega
/-- What is left of a text, K read of it: T are all. -/
def LeftP (T : Option (List BLab)) (n : Nat) (K : List BLab) (R : List UInt8) : Prop :=
  (R = [] ∧ T = some K) ∨ ∃ m j, R = 44 :: m ∧ m.length < j ∧ m.length + K.length ≤ n ∧ T = (allR j m).map (K ++ ·)
theorem LeftP.none' {T : Option (List BLab)} {n : Nat} {K : List BLab} {m : List UInt8} (h : LeftP T n K (44 :: m)) (ho : oneR m = none) : T = none := by
  rcases h with ⟨h, -⟩ | ⟨m', j, h1, h2, -, h3⟩
  · cases h
  · obtain rfl := (List.cons.inj h1).2
    obtain ⟨j, rfl⟩ : ∃ i, j = i + 1 := ⟨j - 1, by omega⟩
    rw [h3, allR, ho]
    rfl
theorem LeftP.some' {T : Option (List BLab)} {n : Nat} {K : List BLab} {m r : List UInt8} {x : List UInt8 × List UInt8} (h : LeftP T n K (44 :: m)) (ho : oneR m = some (x, r)) : LeftP T n (K ++ [bl x]) r := by
  have hr := oneR_rest m x r ho
  rcases h with ⟨h, -⟩ | ⟨m', j, h1, h2, h5, h3⟩
  · cases h
  · obtain rfl := (List.cons.inj h1).2
    obtain ⟨j, rfl⟩ : ∃ i, j = i + 1 := ⟨j - 1, by omega⟩
    rcases hr.2 with rfl | ⟨t, rfl⟩
    · refine .inl ⟨rfl, ?_⟩
      rw [h3, allR, ho]
      rfl
    · have hl := hr.1
      simp only [List.length_cons] at hl
      refine .inr ⟨t, j, rfl, by omega, by simp; omega, ?_⟩
      rw [h3, allR, ho]
      simp only [Option.map_map]
      congr 1
      funext L
      show K ++ (bl x :: L) = (K ++ [bl x]) ++ L
      simp
theorem size_mk (l : List UInt8) : (⟨l.toArray⟩ : ByteArray).size = l.length := by
  show l.toArray.size = _
  simp
theorem parseA_all (l : List UInt8) (K : List BLab) (h : readB l = some K) : parseA l = if rightA (putAll K) then some (putAll K) else none := by
  have hs := putAll_sort K
  unfold parseA
  rw [h]
  show (if rightA (sortA K) then some (sortA K) else none) = _
  rw [hs.1]
  by_cases hr : rightA (sortA K) = true
  · rw [if_pos hr, if_pos hr, hs.2 hr]
  · rw [if_neg hr, if_neg hr]
set_option maxRecDepth 100000 in
set_option maxHeartbeats 2000000 in
theorem rparse_no (s : ByteArray) (w : World) (hs : s.size ≤ 1000) (hV : vR s = false) :
    Calls Tryz.prog 13 #[.string s] w fun e w' => e = .returned (.tuple #[.slice none 0 0, .int .i64 40]) ∧ Below w.heap.size w w' := by
  have hr := rrunes_any s w (by omega)
  rw [hV] at hr
  go_enter Tryz.func13, Tryz.ntmps13
  go_wp2_with fail
  refine hr.mono ?_
  rintro e w1 ⟨rfl, hB⟩
  go_wp2_with fail
  go_ret2
  exact ⟨rfl, hB⟩
def strLen (v : Value) : Nat := match v with
  | .string s => s.size
  | _ => 0
theorem empty_of2 (S : ByteArray) : S.toList.isEmpty = decide (S.data.toList = []) := by
  rw [Lib.toList_data]
  cases S.data.toList <;> simp
theorem putAll_mem (K : List BLab) (x : BLab) (h : x ∈ putAll K) : x ∈ K := (putAll_perm K).mem_iff.1 h
theorem putAll_length (K : List BLab) : (putAll K).length = K.length := (putAll_perm K).length_eq
set_option maxRecDepth 100000 in
set_option maxHeartbeats 4000000 in
theorem rparse_yes (s : ByteArray) (w : World) (hs : s.size ≤ 1000) (hV : vR s = true) :
    Calls Tryz.prog 13 #[.string s] w fun e w' => Below w.heap.size w w' ∧ ParseP w' (parseA s.data.toList) e := by
  have hr := rrunes_any s w (by omega)
  rw [hV] at hr
  have hT := readB_all s.data.toList hV
  have hPN : readB s.data.toList = none → parseA s.data.toList = none := fun h => by unfold parseA; rw [h]; rfl
  have hPS := fun K h => parseA_all s.data.toList K h
  have hL0 : LeftP (readB s.data.toList) s.size [] (((⟨#[44]⟩ : ByteArray) ++ s).data.toList) := by
    refine .inr ⟨s.data.toList, s.data.toList.length + 1, by simp, by omega, by rw [data_length]; simp, ?_⟩
    rw [hT]
    simp
  have hz0 : ((⟨#[44]⟩ : ByteArray) ++ s).size = s.size + 1 := by
    rw [ByteArray.size_append, Nat.add_comm]
    rfl
  have hsz : (⟨#[44]⟩ : ByteArray).size + s.size ≤ 140737488355328 := by
    have : (⟨#[44]⟩ : ByteArray).size = 1 := rfl
    omega
  generalize parseA s.data.toList = P at *
  generalize readB s.data.toList = T at *
  have HL0 := Lib.hid (And.intro hL0 hz0)
  have HPN := Lib.hid hPN
  have HPS := Lib.hid hPS
  clear hT hV hL0 hz0 hPN hPS
  go_enter Tryz.func13, Tryz.ntmps13
  go_wp2_with fail
  refine hr.mono ?_
  rintro e w1 ⟨rfl, hB1⟩
  go_wp2_with fail
  go_loopw [6, 7] (fun o r wr => ∃ (K : List BLab) (R : ByteArray), r = .string R ∧ LabelsAt wr.heap.size wr o (putAll K) ∧ LeftP T s.size K R.data.toList ∧ K.length ≤ s.size + 1 ∧ (∀ x ∈ K, x.1.size ≤ s.size ∧ x.2.size ≤ s.size) ∧ R.size ≤ s.size + 1 ∧ Below w.heap.size w wr)
    (fun _ r _ => strLen r)
  case atStart => exact ⟨[], _, rfl, LabelsAt.nil _ _, HL0.out.1, by simp, fun _ h => (by cases h), by rw [HL0.out.2]; omega, hB1⟩
  case round =>
    clear HL0
    obtain ⟨K, R, rfl, hL, hP, hK, hKs, hRs, hB⟩ := hrel
    have hBs := hB.size
    obtain ⟨nL, p, cap, rfl, -⟩ := hL.form
    have hem := empty_of2 R
    rcases hRl : R.data.toList with _ | ⟨c, m⟩
    · rw [hRl] at hP hem
      have hem' : R.toList.isEmpty = true := by rw [hem]; simp
      have hTK : T = some K := by
        rcases hP with ⟨-, h⟩ | ⟨m', j, h1, -⟩
        · exact h
        · cases h1
      have hPK := HPS.out K hTK
      have hri := rright_any _ (putAll K) wr hL (fun x hx => by have := hKs x (putAll_mem K x hx); omega)
      have HL := Lib.hid hL
      clear hem hTK hP hL HPS HPN
      cases hr : rightA (putAll K)
      · rw [hr] at hri hPK
        simp only [Bool.false_eq_true, if_false] at hPK
        subst hPK
        clear hr
        go_wp2_with fail
        refine hri.mono ?_
        rintro e w2 ⟨rfl, hB2⟩
        go_wp2_with fail
        go_ret2
        exact ⟨hB.trans (hB2.mono hBs), ParseP.none' rfl⟩
      · rw [hr] at hri hPK
        simp only [if_true] at hPK
        subst hPK
        clear hr
        go_wp2_with fail
        refine hri.mono ?_
        rintro e w2 ⟨rfl, hB2⟩
        go_wp2_with fail
        go_ret2
        exact ⟨hB.trans (hB2.mono hBs), .inr ⟨_, _, rfl, rfl, HL.out.at_ hB2⟩⟩
    · rw [hRl] at hP hem
      obtain rfl : c = 44 := by
        rcases hP with ⟨h, -⟩ | ⟨m', j, h1, -⟩
        · cases h
        · exact (List.cons.inj h1).1
      have hem' : R.toList.isEmpty = false := by rw [hem]; simp
      have hml : R.size = m.length + 1 := by rw [← data_length, hRl]; simp
      have hR1 : 1 ≤ R.size := by omega
      have hR1' : (1 : Int) ≤ R.size := by omega
      have hone : ∀ W, Calls Tryz.prog 31 #[.string (R.extract 1 R.size)] W fun e w' => Below W.heap.size W w' ∧ OneP (oneR m) e := fun W => by
        have h := one_any (R.extract 1 R.size) W (by rw [ByteArray.size_extract]; omega)
        rw [extract_tail, hRl] at h
        exact h
      have hKn : K.length ≤ s.size := by
        rcases hP with ⟨h, -⟩ | ⟨m', j, -, -, h1, -⟩
        · cases h
        · omega
      have HM := Lib.hid hml
      clear hem hRl hml
      go_wp2_with fail
      refine (hone _).mono ?_
      rintro e w2 ⟨hB2, ⟨hno, ⟨x1, x2⟩, r, rfl⟩ | ⟨x, r, hyes, rfl⟩⟩
      · have hTn := hP.none' hno
        have hPn := HPN.out hTn
        subst hPn
        clear hTn hno hP hL HPN HPS hone
        go_wp2_with fail
        go_ret2
        exact ⟨(hB.trans (hB2.mono hBs)).alloc (by have := hB2.size; omega) _, ParseP.none' rfl⟩
      · have hP' := hP.some' hyes
        have hz := oneR_size m x r hyes
        have hrl := (oneR_rest m x r hyes).1
        have hz1 := size_mk x.1
        have hz2 := size_mk x.2
        have hrz := size_mk r
        have hml := HM.out
        have hrz' : (⟨r.toArray⟩ : ByteArray).size ≤ s.size + 1 := by omega
        have hrz2 : (⟨r.toArray⟩ : ByteArray).size < R.size := by omega
        have hxs : (bl x).1.size ≤ s.size ∧ (bl x).2.size ≤ s.size := by
          show (⟨x.1.toArray⟩ : ByteArray).size ≤ _ ∧ (⟨x.2.toArray⟩ : ByteArray).size ≤ _
          omega
        have hsn := putAll_snoc K (bl x)
        have hrd : (⟨r.toArray⟩ : ByteArray).data.toList = r := rfl
        rw [← hrd] at hP'
        generalize (⟨r.toArray⟩ : ByteArray) = r' at *
        generalize hy : bl x = y at *
        obtain ⟨y1, y2⟩ := y
        have hput := fun W h => rput_any (.slice p (putAll K).length cap) (putAll K) y1 y2 W h (by simp only at hxs; omega) (by rw [putAll_length]; omega)
        have HP := Lib.hid hP'
        have HS := Lib.hid hsn
        have HY := Lib.hid hxs
        clear hP' hsn hxs hyes hP hone hz hrl hz1 hz2 hrz hml HM hrd hy
        have hLa := hL.at_ hB2
        have hB2s := hB2.size
        go_wp2_with fail
        refine (hput _ (hLa.at_ ((Below.refl _ w2).alloc (Nat.le_refl _) _))).mono ?_
        rintro e w4 ⟨hB4, v', rfl, hL4⟩
        rw [← HS.out] at hL4
        have hB5 : Below w.heap.size w w4 := ((hB.trans (hB2.mono hBs)).alloc (by omega) _).trans (hB4.mono (by rw [World.size_alloc]; omega))
        clear hput hLa hL
        go_wp2_with fail
        go_roundw
        case rel => exact ⟨K ++ [(y1, y2)], r', rfl, hL4, HP.out, by simp; omega, fun z hz => by
          rcases List.mem_append.1 hz with hz | hz
          · exact hKs z hz
          · simp at hz
            subst hz
            exact HY.out, hrz', hB5⟩
        case measure => exact hrz2
theorem rparse_any (s : ByteArray) (w : World) (hs : s.size ≤ 1000) :
    Calls Tryz.prog 13 #[.string s] w fun e w' => Below w.heap.size w w' ∧ ParseP w' (parseA s.data.toList) e := by
  cases hV : vR s
  · refine (rparse_no s w hs hV).mono ?_
    rintro e w' ⟨h1, h2⟩
    have : parseA s.data.toList = none := by
      have hv : validD s.data.toList = false := hV
      unfold parseA readB
      rw [hv]
      rfl
    rw [this]
    exact ⟨h2, ParseP.none' h1⟩
  · exact rparse_yes s w hs hV
set_option maxRecDepth 100000 in
set_option maxHeartbeats 1000000 in
theorem labelParses_law (s : ByteArray) (hs : s.size ≤ maxLen) (w : World) :
    Calls Tryz.prog 3 #[.string s] w fun e w' => e = .returned (.bool true) ∧ Below w.heap.size w w' := by
  have hmx : maxLen = 9223372036854775807 := by decide +kernel
  have hcut := fun W => cut_any s W (by omega)
  have hz := cutB_size s
  generalize cutB s = c at *
  have h1 := fun W => parse_str c W (by omega)
  have h2 := fun W => rparse_any c W (by omega)
  have h3 := fun W => runes_cut c W (by omega)
  have h4 := fun W => rrunes_any c W (by omega)
  generalize parseA c.data.toList = P at *
  generalize nR c = n at *
  generalize vR c = V at *
  clear hz hs
  go_enter Tryz.func3, Tryz.ntmps3
  go_wp2_with fail
  refine (shown_any _).mono ?_
  rintro e w1 ⟨rfl, B1⟩
  have s1 := B1.size
  go_wp2_with fail
  refine (hcut _).mono ?_
  rintro e w2 ⟨rfl, B2⟩
  have C2 := B1.trans (B2.mono s1)
  have s2 := C2.size
  go_wp2_with fail
  refine (h1 _).mono ?_
  rintro e w3 ⟨B3, hP3⟩
  have C3 := C2.trans (B3.mono s2)
  have s3 := C3.size
  obtain ⟨u, E, rfl, hu⟩ : ∃ u E, e = .returned (.tuple #[u, .int .i64 E]) ∧ ((P = none ∧ u = .slice none 0 0 ∧ E = 40) ∨ (∃ L, P = some L ∧ E = 0 ∧ LabelsAt w3.heap.size w3 u L)) := by
    rcases hP3 with ⟨h, h5⟩ | ⟨L, v, h, h5, h6⟩
    · exact ⟨_, _, h5, .inl ⟨h, rfl, rfl⟩⟩
    · exact ⟨_, _, h5, .inr ⟨L, h, rfl, h6⟩⟩
  go_wp2_with fail
  refine (hcut _).mono ?_
  rintro e w4 ⟨rfl, B4⟩
  have C4 := C3.trans (B4.mono s3)
  have s4 := C4.size
  go_wp2_with fail
  refine (h2 _).mono ?_
  rintro e w5 ⟨B5, hP5⟩
  have C5 := C4.trans (B5.mono s4)
  have s5 := C5.size
  obtain ⟨v, L, rfl, hLu, hLv⟩ : ∃ v L, e = .returned (.tuple #[v, .int .i64 E]) ∧ LabelsAt w5.heap.size w5 u L ∧ LabelsAt w5.heap.size w5 v L := by
    rcases hu with ⟨rfl, rfl, rfl⟩ | ⟨L, rfl, rfl, hL⟩
    · rcases hP5 with ⟨-, h5⟩ | ⟨L, v, h, -⟩
      · exact ⟨_, [], h5, LabelsAt.nil _ _, LabelsAt.nil _ _⟩
      · cases h
    · rcases hP5 with ⟨h, -⟩ | ⟨L', v, h, h5, h6⟩
      · cases h
      · obtain rfl := Option.some.inj h
        exact ⟨v, L, h5, (hL.at_ B4).at_ B5, h6⟩
  clear hu hP3 hP5 h1 h2
  go_wp2_with fail
  refine (hcut _).mono ?_
  rintro e w6 ⟨rfl, B6⟩
  have C6 := C5.trans (B6.mono s5)
  have s6 := C6.size
  go_wp2_with fail
  refine (h3 _).mono ?_
  rintro e w7 ⟨rfl, B7⟩
  have C7 := C6.trans (B7.mono s6)
  have s7 := C7.size
  go_wp2_with fail
  refine (hcut _).mono ?_
  rintro e w8 ⟨rfl, B8⟩
  have C8 := C7.trans (B8.mono s7)
  have s8 := C8.size
  go_wp2_with fail
  refine (h4 _).mono ?_
  rintro e w9 ⟨rfl, B9⟩
  have C9 := C8.trans (B9.mono s8)
  have s9 := C9.size
  have hS := rsame_any u v L L w9 ((((hLu.at_ B6).at_ B7).at_ B8).at_ B9) ((((hLv.at_ B6).at_ B7).at_ B8).at_ B9)
  rw [decide_eq_true rfl] at hS
  clear hcut h3 h4 hLu hLv B1 B2 B3 B4 B5 B6 B7 B8 B9 C2 C3 C4 C5 C6 C7 C8
  go_wp2_with fail
  refine hS.mono ?_
  rintro e w10 ⟨rfl, B10⟩
  go_wp2_with fail
  go_ret
  exact ⟨by simp, C9.trans (B10.mono s9)⟩
end Go.Proofs.YtjhdgpboofcelaaGreat
