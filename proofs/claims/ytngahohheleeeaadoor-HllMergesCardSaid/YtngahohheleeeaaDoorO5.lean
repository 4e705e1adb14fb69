/- The walk of the reference's Merge. -/
import Derived.Test.YtngahohheleeeaaDoorO4
namespace Go.Proofs.YtngahohheleeeaaDoor
open Go.RowKit

theorem rmerge_no1 (b c : Int) (s t : ByteArray) (w : World) (h : rightB b s.data.toList = false) :
    Calls Tryd.prog 14 #[.agg #[.int .i64 b, .string s], .agg #[.int .i64 c, .string t]] w fun e w' => e = hllRes 0 ⟨#[]⟩ 70 ∧ Below w.heap.size w w' := by
  have hR : ∀ w, Calls Tryd.prog 29 #[.agg #[.int .i64 b, .string s]] w fun e w' => e = .returned (.bool false) ∧ Below w.heap.size w w' := fun w => h ▸ rright_any b s w
  go_enter Tryd.func14, Tryd.ntmps14
  go_wp2_with (first | (go_at_call 29; (first | (with_reducible refine Calls.mono (Calls.gr (hR _)) ?_) | (refine Calls.mono (Calls.gr0 (hR _)) ?_)); rintro e w' ⟨rfl, g, rfl⟩; have hgl := g.le; (try simp only [World.size_alloc] at hgl); (try simp only [World.size_setCell] at hgl)))
  exact bodyPost_ret (v := .tuple #[.agg #[.int .i64 0, .string ⟨#[]⟩], .int .i64 70]) (by simp [results, Tryd.results14, go_sem]) rfl ⟨rfl, (by repeat (first | exact Below.refl _ _ | assumption | (refine Below.setCell ?_ (by (first | omega | (simp; done) | (simp; omega) | (simp at *; omega))) _) | (refine Below.alloc ?_ (by (first | omega | (simp; done) | (simp; omega) | (simp at *; omega))) _) | (refine Below.drew ?_) | (refine Gr.into _ ?_ (by (first | omega | (simp; done) | (simp; omega) | (simp at *; omega))))))⟩

theorem rmerge_no2 (b c : Int) (s t : ByteArray) (w : World) (h : rightB b s.data.toList = true) (h2 : rightB c t.data.toList = false) :
    Calls Tryd.prog 14 #[.agg #[.int .i64 b, .string s], .agg #[.int .i64 c, .string t]] w fun e w' => e = hllRes 0 ⟨#[]⟩ 70 ∧ Below w.heap.size w w' := by
  have hR : ∀ w, Calls Tryd.prog 29 #[.agg #[.int .i64 b, .string s]] w fun e w' => e = .returned (.bool true) ∧ Below w.heap.size w w' := fun w => h ▸ rright_any b s w
  have hT : ∀ w, Calls Tryd.prog 29 #[.agg #[.int .i64 c, .string t]] w fun e w' => e = .returned (.bool false) ∧ Below w.heap.size w w' := fun w => h2 ▸ rright_any c t w
  go_enter Tryd.func14, Tryd.ntmps14
  go_wp2_with fail
  with_reducible refine Calls.mono (Calls.gr0 (hR _)) ?_
  rintro e w' ⟨rfl, g, rfl⟩
  have hgl := g.le
  try simp only [World.size_alloc] at hgl
  try simp only [World.size_setCell] at hgl
  go_wp2_with fail
  refine Calls.named (fun W hW => ?_)
  have hBW : Below w.heap.size w W := by rw [hW]; exact (by repeat (first | exact Below.refl _ _ | assumption | (refine Below.setCell ?_ (by (first | omega | (simp; done) | (simp; omega) | (simp at *; omega))) _) | (refine Below.alloc ?_ (by (first | omega | (simp; done) | (simp; omega) | (simp at *; omega))) _) | (refine Below.drew ?_) | (refine Gr.into _ ?_ (by (first | omega | (simp; done) | (simp; omega) | (simp at *; omega))))))
  have x : RowAt W (w.heap.size) 26 [.int .i64 b, .string s] := by rw [hW]; exact (by repeat (first | assumption | exact RowAt.new_at _ _ _ _ (by (first | omega | (simp; done) | (simp; omega) | (simp at *; omega))) | (refine RowAt.alloc ?_ _) | (refine RowAt.gr ?_ _) | (refine RowAt.setOther ?_ _ _ (by (first | omega | (simp; done) | (simp; omega) | (simp at *; omega)))) | (refine RowAt.drew ?_)))
  have y : RowAt W (w.heap.size + 1) 26 [.int .i64 c, .string t] := by rw [hW]; exact (by repeat (first | assumption | exact RowAt.new_at _ _ _ _ (by (first | omega | (simp; done) | (simp; omega) | (simp at *; omega))) | (refine RowAt.alloc ?_ _) | (refine RowAt.gr ?_ _) | (refine RowAt.setOther ?_ _ _ (by (first | omega | (simp; done) | (simp; omega) | (simp at *; omega)))) | (refine RowAt.drew ?_)))
  have r : RowAt W (w.heap.size + 1 + 1) 26 [.int .i64 0, .string ⟨#[]⟩] := by rw [hW]; exact (by repeat (first | assumption | exact RowAt.new_at _ _ _ _ (by (first | omega | (simp; done) | (simp; omega) | (simp at *; omega))) | (refine RowAt.alloc ?_ _) | (refine RowAt.gr ?_ _) | (refine RowAt.setOther ?_ _ _ (by (first | omega | (simp; done) | (simp; omega) | (simp at *; omega)))) | (refine RowAt.drew ?_)))
  clear hW
  obtain ⟨xc0, xc1, xf0, xf1, xl⟩ := x.two
  obtain ⟨yc0, yc1, yf0, yf1, yl⟩ := y.two
  obtain ⟨rc0, rc1, rf0, rf1, rl⟩ := r.two
  with_reducible refine Calls.mono (Calls.gr0 (hT _)) ?_
  rintro e w' ⟨rfl, g, rfl⟩
  have hgl := g.le
  try simp only [World.size_alloc] at hgl
  try simp only [World.size_setCell] at hgl
  go_wp2_with fail
  exact bodyPost_ret (v := .tuple #[.agg #[.int .i64 0, .string ⟨#[]⟩], .int .i64 70]) (by simp [results, Tryd.results14, go_sem, rc0, rc1, rl]) rfl ⟨rfl, (by repeat (first | exact Below.refl _ _ | assumption | (refine Below.setCell ?_ (by (first | omega | (simp; done) | (simp; omega) | (simp at *; omega))) _) | (refine Below.alloc ?_ (by (first | omega | (simp; done) | (simp; omega) | (simp at *; omega))) _) | (refine Below.drew ?_) | (refine Gr.into _ ?_ (by (first | omega | (simp; done) | (simp; omega) | (simp at *; omega))))))⟩

theorem rmerge_no3 (b c : Int) (s t : ByteArray) (w : World) (h : rightB b s.data.toList = true) (h2 : rightB c t.data.toList = true) (h3 : (b != c) = true) :
    Calls Tryd.prog 14 #[.agg #[.int .i64 b, .string s], .agg #[.int .i64 c, .string t]] w fun e w' => e = hllRes 0 ⟨#[]⟩ 70 ∧ Below w.heap.size w w' := by
  have hR : ∀ w, Calls Tryd.prog 29 #[.agg #[.int .i64 b, .string s]] w fun e w' => e = .returned (.bool true) ∧ Below w.heap.size w w' := fun w => h ▸ rright_any b s w
  have hT : ∀ w, Calls Tryd.prog 29 #[.agg #[.int .i64 c, .string t]] w fun e w' => e = .returned (.bool true) ∧ Below w.heap.size w w' := fun w => h2 ▸ rright_any c t w
  have h4 : (b == c) = false := by simpa using h3
  go_enter Tryd.func14, Tryd.ntmps14
  go_wp2_with fail
  with_reducible refine Calls.mono (Calls.gr0 (hR _)) ?_
  rintro e w' ⟨rfl, g, rfl⟩
  have hgl := g.le
  try simp only [World.size_alloc] at hgl
  try simp only [World.size_setCell] at hgl
  go_wp2_with fail
  refine Calls.named (fun W hW => ?_)
  have hBW : Below w.heap.size w W := by rw [hW]; exact (by repeat (first | exact Below.refl _ _ | assumption | (refine Below.setCell ?_ (by (first | omega | (simp; done) | (simp; omega) | (simp at *; omega))) _) | (refine Below.alloc ?_ (by (first | omega | (simp; done) | (simp; omega) | (simp at *; omega))) _) | (refine Below.drew ?_) | (refine Gr.into _ ?_ (by (first | omega | (simp; done) | (simp; omega) | (simp at *; omega))))))
  have x : RowAt W (w.heap.size) 26 [.int .i64 b, .string s] := by rw [hW]; exact (by repeat (first | assumption | exact RowAt.new_at _ _ _ _ (by (first | omega | (simp; done) | (simp; omega) | (simp at *; omega))) | (refine RowAt.alloc ?_ _) | (refine RowAt.gr ?_ _) | (refine RowAt.setOther ?_ _ _ (by (first | omega | (simp; done) | (simp; omega) | (simp at *; omega)))) | (refine RowAt.drew ?_)))
  have y : RowAt W (w.heap.size + 1) 26 [.int .i64 c, .string t] := by rw [hW]; exact (by repeat (first | assumption | exact RowAt.new_at _ _ _ _ (by (first | omega | (simp; done) | (simp; omega) | (simp at *; omega))) | (refine RowAt.alloc ?_ _) | (refine RowAt.gr ?_ _) | (refine RowAt.setOther ?_ _ _ (by (first | omega | (simp; done) | (simp; omega) | (simp at *; omega)))) | (refine RowAt.drew ?_)))
  have r : RowAt W (w.heap.size + 1 + 1) 26 [.int .i64 0, .string ⟨#[]⟩] := by rw [hW]; exact (by repeat (first | assumption | exact RowAt.new_at _ _ _ _ (by (first | omega | (simp; done) | (simp; omega) | (simp at *; omega))) | (refine RowAt.alloc ?_ _) | (refine RowAt.gr ?_ _) | (refine RowAt.setOther ?_ _ _ (by (first | omega | (simp; done) | (simp; omega) | (simp at *; omega)))) | (refine RowAt.drew ?_)))
  clear hW
  obtain ⟨xc0, xc1, xf0, xf1, xl⟩ := x.two
  obtain ⟨yc0, yc1, yf0, yf1, yl⟩ := y.two
  obtain ⟨rc0, rc1, rf0, rf1, rl⟩ := r.two
  with_reducible refine Calls.mono (Calls.gr0 (hT _)) ?_
  rintro e w' ⟨rfl, g, rfl⟩
  have hgl := g.le
  try simp only [World.size_alloc] at hgl
  try simp only [World.size_setCell] at hgl
  go_wp2_with fail
  exact bodyPost_ret (v := .tuple #[.agg #[.int .i64 0, .string ⟨#[]⟩], .int .i64 70]) (by simp [results, Tryd.results14, go_sem, rc0, rc1, rl]) rfl ⟨rfl, (by repeat (first | exact Below.refl _ _ | assumption | (refine Below.setCell ?_ (by (first | omega | (simp; done) | (simp; omega) | (simp at *; omega))) _) | (refine Below.alloc ?_ (by (first | omega | (simp; done) | (simp; omega) | (simp at *; omega))) _) | (refine Below.drew ?_) | (refine Gr.into _ ?_ (by (first | omega | (simp; done) | (simp; omega) | (simp at *; omega))))))⟩

/-- The first k registers merged. -/
def mergeTo (s t : List UInt8) (k : Nat) : List UInt8 := (mergeB s t).take k ++ s.drop k
theorem mergeB_length (s t : List UInt8) (h : s.length = t.length) : (mergeB s t).length = s.length := by simp [mergeB]; omega
theorem mergeTo_length (s t : List UInt8) (k : Nat) (h : s.length = t.length) (hk : k ≤ s.length) : (mergeTo s t k).length = s.length := by
  have := mergeB_length s t h
  simp [mergeTo]; omega
theorem mergeTo_succ (s t : List UInt8) (k : Nat) (h : s.length = t.length) (hk : k < s.length) : mergeTo s t (k + 1) = (mergeTo s t k).set k (max (s.getD k 0) (t.getD k 0)) := by
  have hl := mergeB_length s t h
  have e : (mergeB s t)[k]? = some (max (s.getD k 0) (t.getD k 0)) := by
    unfold mergeB
    rw [List.getElem?_zipWith]
    simp [List.getD, hk, show k < t.length by omega]
  unfold mergeTo
  apply List.ext_getElem?
  intro i
  rw [List.getElem?_set]
  by_cases hi : k = i
  · subst hi
    rw [if_pos rfl, if_pos (by simp; omega), List.getElem?_append_left (by simp; omega), List.getElem?_take_of_lt (by omega), e]
  · rw [if_neg hi]
    by_cases h1 : i < k
    · rw [List.getElem?_append_left (by simp; omega), List.getElem?_append_left (by simp; omega), List.getElem?_take_of_lt (by omega), List.getElem?_take_of_lt h1]
    · rw [List.getElem?_append_right (by simp; omega), List.getElem?_append_right (by simp; omega), List.getElem?_drop, List.getElem?_drop]
      simp only [List.length_take, hl]
      congr 1
      omega
theorem mergeTo_zero (s t : List UInt8) : mergeTo s t 0 = s := by simp [mergeTo]
theorem mergeTo_end (s t : List UInt8) (h : s.length = t.length) : mergeTo s t s.length = mergeB s t := by
  have := mergeB_length s t h
  simp [mergeTo, List.take_of_length_le (Nat.le_of_eq this)]
theorem mergeTo_at (s t : List UInt8) (k : Nat) (h : s.length = t.length) (hk : k < s.length) : (mergeTo s t k).getD k 0 = s.getD k 0 := by
  have hl := mergeB_length s t h
  unfold mergeTo List.getD
  rw [List.getElem?_append_right (by simp; omega), List.getElem?_drop]
  simp only [List.length_take, hl]
  congr 2
  omega

set_option maxRecDepth 100000 in
set_option maxHeartbeats 1000000 in
theorem rmerge_yes (b : Nat) (s t : ByteArray) (w : World) (h : rightB b s.data.toList = true) (h2 : rightB b t.data.toList = true) :
    Calls Tryd.prog 14 #[.agg #[.int .i64 b, .string s], .agg #[.int .i64 b, .string t]] w fun e w' => e = hllRes b ⟨(mergeB s.data.toList t.data.toList).toArray⟩ 0 ∧ Below w.heap.size w w' := by
  have hR : ∀ w, Calls Tryd.prog 29 #[.agg #[.int .i64 b, .string s]] w fun e w' => e = .returned (.bool true) ∧ Below w.heap.size w w' := fun w => h ▸ rright_any b s w
  have hT : ∀ w, Calls Tryd.prog 29 #[.agg #[.int .i64 b, .string t]] w fun e w' => e = .returned (.bool true) ∧ Below w.heap.size w w' := fun w => h2 ▸ rright_any b t w
  have hconv : ∀ w, Sem.run Tryd.prog (convert 9 62 (.string s)) w = .ok (.slice (some ⟨w.heap.size, 0, none⟩) s.size (grownCap w s.size 0 5)) (Lib.bytesWorld w 5 s) := fun w => Lib.run_convert_string_bytes w _ _ _ s Tryd.underlying9 Tryd.underlying62 Tryd.underlying5
  have hsz := Lib.bytesWorld_size
  have hb := rightB_bits h
  obtain ⟨h3, h8⟩ := isBits_bd hb
  have hl := rightB_len h
  have hl2 := rightB_len h2
  have hls : s.data.toList.length = s.size := by simp
  have hlt : t.data.toList.length = t.size := by simp
  have hst : s.size = t.size := by omega
  have hs256 : s.size ≤ 256 := by rw [← hls, hl]; exact pow_small (by omega)
  obtain ⟨M, hM0⟩ : ∃ M, M = mergeB s.data.toList t.data.toList := ⟨_, rfl⟩
  rw [← hM0]
  have hM := Lib.hid hM0
  clear hM0
  have HST := Lib.hid hst
  clear hst hl hl2
  go_enter Tryd.func14, Tryd.ntmps14
  go_wp2_with fail
  with_reducible refine Calls.mono (Calls.gr0 (hR _)) ?_
  rintro e w' ⟨rfl, g, rfl⟩
  have hgl := g.le
  try simp only [World.size_alloc] at hgl
  try simp only [World.size_setCell] at hgl
  go_wp2_with fail
  refine Calls.named (fun W hW => ?_)
  have hBW : Below w.heap.size w W := by rw [hW]; exact (by repeat (first | exact Below.refl _ _ | assumption | (refine Below.setCell ?_ (by (first | omega | (simp; done) | (simp; omega) | (simp at *; omega))) _) | (refine Below.alloc ?_ (by (first | omega | (simp; done) | (simp; omega) | (simp at *; omega))) _) | (refine Below.drew ?_) | (refine Gr.into _ ?_ (by (first | omega | (simp; done) | (simp; omega) | (simp at *; omega))))))
  have x : RowAt W (w.heap.size) 26 [.int .i64 b, .string s] := by rw [hW]; exact (by repeat (first | assumption | exact RowAt.new_at _ _ _ _ (by (first | omega | (simp; done) | (simp; omega) | (simp at *; omega))) | (refine RowAt.alloc ?_ _) | (refine RowAt.gr ?_ _) | (refine RowAt.setOther ?_ _ _ (by (first | omega | (simp; done) | (simp; omega) | (simp at *; omega)))) | (refine RowAt.drew ?_)))
  have y : RowAt W (w.heap.size + 1) 26 [.int .i64 b, .string t] := by rw [hW]; exact (by repeat (first | assumption | exact RowAt.new_at _ _ _ _ (by (first | omega | (simp; done) | (simp; omega) | (simp at *; omega))) | (refine RowAt.alloc ?_ _) | (refine RowAt.gr ?_ _) | (refine RowAt.setOther ?_ _ _ (by (first | omega | (simp; done) | (simp; omega) | (simp at *; omega)))) | (refine RowAt.drew ?_)))
  have r : RowAt W (w.heap.size + 1 + 1) 26 [.int .i64 0, .string ⟨#[]⟩] := by rw [hW]; exact (by repeat (first | assumption | exact RowAt.new_at _ _ _ _ (by (first | omega | (simp; done) | (simp; omega) | (simp at *; omega))) | (refine RowAt.alloc ?_ _) | (refine RowAt.gr ?_ _) | (refine RowAt.setOther ?_ _ _ (by (first | omega | (simp; done) | (simp; omega) | (simp at *; omega)))) | (refine RowAt.drew ?_)))
  clear hW
  obtain ⟨xc0, xc1, xf0, xf1, xl⟩ := x.two
  obtain ⟨yc0, yc1, yf0, yf1, yl⟩ := y.two
  obtain ⟨rc0, rc1, rf0, rf1, rl⟩ := r.two
  with_reducible refine Calls.mono (Calls.gr0 (hT _)) ?_
  rintro e w' ⟨rfl, g, rfl⟩
  have hgl := g.le
  try simp only [World.size_alloc] at hgl
  try simp only [World.size_setCell] at hgl
  go_wp2_with fail
  refine wp_named (fun W2 hW2 => ?_)
  have hg2 : Below g.world.heap.size g.world W2 := by rw [hW2]; exact Joins.below_bytesWorld _ _ _ s (Nat.le_refl _)
  have hB2 : Below w.heap.size w W2 := (hBW.trans (g.below.mono hBW.size)).trans (hg2.mono (Nat.le_trans hBW.size g.le))
  have x2 := (x.gr g).below hg2 (x.gr g).lt
  have y2 := (y.gr g).below hg2 (y.gr g).lt
  have r2 := (r.gr g).below hg2 (r.gr g).lt
  have b2 : RowAt W2 g.world.heap.size 5 (Lib.byteCells s.data.toList) := by rw [hW2]; exact RowAt.bytes _ _ _
  have hcap := grownCap_ge g.world s.size 0 5
  generalize grownCap g.world s.size 0 5 = cap at *
  generalize g.world.heap.size = bb at *
  clear hW2 xc0 xc1 xf0 xf1 xl yc0 yc1 yf0 yf1 yl rc0 rc1 rf0 rf1 x y r hg2
  rw [← mergeTo_zero s.data.toList t.data.toList] at b2
  go_loopw [7] (fun i wr => ∃ k : Nat, k ≤ s.size ∧ i = .int .i64 k ∧ Below w.heap.size w wr ∧ RowAt wr w.heap.size 26 [.int .i64 b, .string s] ∧ RowAt wr (w.heap.size + 1) 26 [.int .i64 b, .string t] ∧
      RowAt wr (w.heap.size + 1 + 1) 26 [.int .i64 0, .string ⟨#[]⟩] ∧ RowAt wr bb 5 (Lib.byteCells (mergeTo s.data.toList t.data.toList k)))
    (fun i _ => s.size - (intOf i).toNat)
  case atStart => exact ⟨0, Nat.zero_le _, rfl, hB2, x2, y2, r2, b2⟩
  case round =>
    obtain ⟨k, hk, rfl, hB, rx, ry, rr, rb⟩ := hrel
    obtain ⟨xc0, xc1, xf0, xf1, xl⟩ := rx.two
    obtain ⟨yc0, yc1, yf0, yf1, yl⟩ := ry.two
    obtain ⟨rc0, rc1, rf0, rf1, rl⟩ := rr.two
    by_cases hlk : k < s.size
    · have hst := HST.out
      have hkt : k < t.size := by omega
      have e2 := byte_getD t k hkt
      have m2 := t[k].toNat_lt
      have hbl := rb.lt
      have hml := mergeTo_length s.data.toList t.data.toList k (by omega) (by omega)
      have hfr := rb.frozen k (by simp [Lib.byteCells]; omega)
      have hcr := rb.byte k (by omega)
      have hms := mergeTo_succ s.data.toList t.data.toList k (by omega) (by omega)
      have hma := mergeTo_at s.data.toList t.data.toList k (by omega) (by omega)
      rw [hma] at hcr
      have HM := Lib.hid hms
      clear hms hml hma
      have hmx := umax2 (s.data.toList.getD k 0) (t.data.toList.getD k 0)
      have e1 := byte_getD s k (by omega)
      rw [e1, e2] at hmx
      rw [e1] at hcr
      clear hst
      have E1 := Lib.hid e1
      have E2 := Lib.hid e2
      have HX := Lib.hid hmx
      clear e1 e2 hmx
      have m1 := s[k].toNat_lt
      go_wp2
      refine wp_region_gr_tail 12 (by kernel_rfl) (by kernel_rfl) ?_
      simp only [List.take_succ_cons, List.take_zero, List.drop_succ_cons, List.drop_zero]
      repeat (go_big_quiet_step (first | fail))
      refine wpQuiet_nil ?_
      intro g2
      go_wp2
      go_roundw
      case rel =>
        refine ⟨k + 1, by omega, by go_num, (g2.into hB hB.size).setCell (p := ⟨bb, k, none⟩) (by show _ ≤ bb; omega) _, (rx.gr g2).setOther _ _ (by show _ ≠ bb; omega), (ry.gr g2).setOther _ _ (by show _ ≠ bb; omega), (rr.gr g2).setOther _ _ (by show _ ≠ bb; omega), ?_⟩
        rw [HM.out, byteCells_set, E1.out, E2.out, HX.out]
        exact (rb.gr g2).set k _
      case measure => simp [intOf]; omega
    · obtain rfl : k = s.size := by omega
      have hst := HST.out
      have hml := mergeTo_length s.data.toList t.data.toList s.size (by omega) (by omega)
      have hstr := rb.string (P := Tryd.prog) (src := 62) (dst := 9) (cap := cap) Tryd.underlying62 Tryd.underlying5 Tryd.underlying9
      rw [hml, hls] at hstr
      have hme := mergeTo_end s.data.toList t.data.toList (by omega)
      rw [hls] at hme
      rw [hme, ← hM.out] at hstr
      clear hml hme hls hlt hst
      go_wp2
      exact bodyPost_ret (v := .tuple #[.agg #[.int .i64 b, .string ⟨M.toArray⟩], .int .i64 0]) (by simp [results, Tryd.results14, go_sem, rc0, rc1, rl]) rfl ⟨rfl, (by repeat (first | exact Below.refl _ _ | assumption | (refine Below.setCell ?_ (by (first | omega | (simp; done) | (simp; omega) | (simp at *; omega))) _) | (refine Below.alloc ?_ (by (first | omega | (simp; done) | (simp; omega) | (simp at *; omega))) _) | (refine Below.drew ?_) | (refine Gr.into _ ?_ (by (first | omega | (simp; done) | (simp; omega) | (simp at *; omega))))))⟩
end Go.Proofs.YtngahohheleeeaaDoor
