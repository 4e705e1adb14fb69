/- cmp.Compare at texts, how texts are sorted; package scope: terms, isName. -/
import Derived.Test.YtjhdgpboofcelaaDoorSF
import Derived.Test.YtjhdgpboofcelaaDoorSD
import Derived.Test.YtjhdgpboofcelaaDoorShelf
import Derived.Sort.LotA
namespace Go.Proofs.YtjhdgpboofcelaaDoor
open Go.RowKit
attribute [local go_sem] Oper.semAt_some

theorem isNaN_any (x : ByteArray) (w : World) : Calls Tryd.prog 37 #[.string x] w fun e w' => e = .returned (.bool false) ∧ w' = w := by
  go_enter Tryd.func37, Tryd.ntmps37
  go_wp2
  go_ret
  exact ⟨by simp, rfl⟩
/-- Which of two texts is less. -/
def cmpB (x y : ByteArray) : Int := if Go.Op.bytesLess x.toList y.toList then -1 else if x.toList == y.toList then 0 else 1
theorem compare_any (x y : ByteArray) (w : World) : Calls Tryd.prog 20 #[.string x, .string y] w fun e w' => e = .returned (.int .i64 (cmpB x y)) ∧ w' = w := by
  unfold cmpB
  cases h1 : Go.Op.bytesLess x.toList y.toList
  · cases h2 : (x.toList == y.toList)
    · go_enter Tryd.func20, Tryd.ntmps20
      go_wp2_with (go_at_call 37; refine (isNaN_any _ _).mono ?_; rintro e w' ⟨rfl, rfl⟩)
      go_ret
      exact ⟨rfl, rfl⟩
    · go_enter Tryd.func20, Tryd.ntmps20
      go_wp2_with (go_at_call 37; refine (isNaN_any _ _).mono ?_; rintro e w' ⟨rfl, rfl⟩)
      go_ret
      exact ⟨rfl, rfl⟩
  · go_enter Tryd.func20, Tryd.ntmps20
    go_wp2_with (go_at_call 37; refine (isNaN_any _ _).mono ?_; rintro e w' ⟨rfl, rfl⟩)
    go_ret
    exact ⟨rfl, rfl⟩
def cfS (x y : List UInt8) : Int := cmpB ⟨x.toArray⟩ ⟨y.toArray⟩
theorem bytesLess_eqS : ∀ (x y : List UInt8), Op.bytesLess x y = decide (x < y)
  | [], [] => by simp [Op.bytesLess]
  | _ :: _, [] => by simp [Op.bytesLess]
  | [], _ :: _ => by simp [Op.bytesLess]
  | a :: x, b :: y => by
    rw [Op.bytesLess, bytesLess_eqS x y]
    simp only [List.cons_lt_cons_iff]
    by_cases h1 : a < b <;> by_cases h2 : a = b <;> by_cases h3 : x < y <;> simp [h1, h2, h3]
theorem ltOf_cfS : ltOf cfS = Sort.ltStr := by
  funext x y
  show decide (cmpB ⟨x.toArray⟩ ⟨y.toArray⟩ < 0) = decide (x < y)
  unfold cmpB
  rw [bytesLess_eqS, Lib.toList_data, Lib.toList_data]
  by_cases h : x < y
  · simp [h]
  · simp only [h, decide_false, Bool.false_eq_true, if_false]
    split <;> simp
theorem swo_cfS : Sort.SWO (ltOf cfS) := by
  rw [ltOf_cfS]
  exact Sort.swo_ltStr
/-- Texts, sorted as the library sorts them. -/
def sortS (ns : List (List UInt8)) : Array (List UInt8) := Sort.pdq (ltOf cfS) ns.toArray 0 ns.toArray.size (Lib.bitLen ns.toArray.size) true true
theorem sortS_perm (ns : List (List UInt8)) : Sort.PermIn 0 ns.toArray.size ns.toArray (sortS ns) := (Sort.pdq_sorts (ltOf cfS) swo_cfS ns.toArray 0 ns.toArray.size (Lib.bitLen ns.toArray.size) true true (Nat.zero_le _) (Nat.le_refl _) (Or.inl rfl)).1
theorem sortS_size (ns : List (List UInt8)) : (sortS ns).size = ns.length := (sortS_perm ns).1
theorem sortS_one (x : List UInt8) : (sortS [x]).toList = [x] := by
  obtain ⟨h1, -, h3⟩ := sortS_perm [x]
  have e1 : (sortS [x]).extract 0 ([x] : List (List UInt8)).toArray.size = sortS [x] := by
    rw [← h1]
    simp
  rw [e1] at h3
  have e2 : (([x] : List (List UInt8)).toArray.extract 0 ([x] : List (List UInt8)).toArray.size).toList = [x] := by simp
  rw [e2] at h3
  exact List.perm_singleton.1 h3
theorem egCompare : ∀ args w, (callFunc 20 args).run Tryd.prog w = .ok (.enter 20 args) w := enters_of Tryd.func20 (by kernel_rfl) rfl
theorem sort_any (blk cap : Nat) (ns : List (List UInt8)) (w : World) (hH : Sort.Holds encStr w blk 0 ns.toArray) (hblk : blk < w.heap.size) (hsz : ns.length ≤ 2000000) :
    Calls Tryd.prog 19 #[.slice (some ⟨blk, 0, none⟩) ns.length cap, .func (.func 20) #[] #[]] w fun e w' => e = .returned (.tuple #[]) ∧ ∃ n os, w' = sortWorld encStr w blk 0 n (sortS ns) os :=
  Tryd.slices_SortFunc_eq encStr (fun _ => rfl) cfS swo_cfS 20 #[] blk 0 cap ns.toArray w egCompare
    (fun m os dk _ x y => (compare_any ⟨x.toArray⟩ ⟨y.toArray⟩ _).mono fun e w' ⟨h1, h2⟩ => ⟨h1, 0, #[], by rw [h2, Sort.grow_empty]; rfl⟩) hH hblk (by simp; omega)
theorem terms_any (s : ByteArray) (w : World) :
    Calls Tryd.prog 16 #[.string s] w fun e w' => e = .returned (.func (.func 29) #[] #[.pointer (some ⟨w.heap.size, 0, none⟩)]) ∧ w.alloc (.cells #[.string s] 9) = w' := by
  go_enter Tryd.func16, Tryd.ntmps16
  go_wp2
  go_ret
  exact ⟨rfl, rfl⟩
theorem scopeName_any (s : ByteArray) (w : World) (hs : s.size ≤ 1000000) :
    Calls Tryd.prog 18 #[.string s] w fun e w' => e = .returned (.bool (nameB s.data.toList)) ∧ Below w.heap.size w w' := by
  have hR := right_any _ _ _ (label_made w s ⟨#[]⟩ hs (by decide))
  rw [rightA_one, valueE, Bool.and_true] at hR
  generalize nameB s.data.toList = r at *
  go_enter Tryd.func18, Tryd.ntmps18
  go_wp2_with fail
  refine hR.mono ?_
  rintro e w1 ⟨rfl, hB⟩
  go_wp2_with fail
  go_ret
  exact ⟨rfl, ((Below.refl _ _).alloc (Nat.le_refl _) _).trans (hB.mono (by simp))⟩
end Go.Proofs.YtjhdgpboofcelaaDoor
