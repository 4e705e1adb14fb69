/- Package hll's added, Add, New, Of. -/
import Derived.Test.YtngahohheleeeaaDoorA3
namespace Go.Proofs.YtngahohheleeeaaDoor
open Go.RowKit

/-- Registers and a number of what is wrong, as a result. -/
abbrev hllRes (b : Int) (s : ByteArray) (e : Int) : Ending := .returned (.tuple #[.agg #[.int .i64 b, .string s], .int .i64 e])

theorem added_no (b : Int) (s : ByteArray) (v : Value) (w : World) (h : rightB b s.data.toList = false) :
    Calls Tryd.prog 19 #[.agg #[.int .i64 b, .string s], v] w fun e w' => e = hllRes 0 ⟨#[]⟩ 70 ∧ Below w.heap.size w w' := by
  go_enter Tryd.func19, Tryd.ntmps19
  go_wp2_with (first
    | (go_at_call 25; (first | (with_reducible refine Calls.mono (Calls.gr (start_no _ _ _ h)) ?_) | (refine Calls.mono (Calls.gr0 (start_no _ _ _ h)) ?_)); rintro e w' ⟨rfl, g, rfl⟩; have hgl := g.le; (try simp only [World.size_alloc] at hgl); (try simp only [World.size_setCell] at hgl))
    | (go_at_call 21; (first | (with_reducible refine Calls.mono (Calls.gr (told_wrong _)) ?_) | (refine Calls.mono (Calls.gr0 (told_wrong _)) ?_)); rintro e w' ⟨rfl, g, rfl⟩; have hgl := g.le; (try simp only [World.size_alloc] at hgl); (try simp only [World.size_setCell] at hgl)))
  exact bodyPost_ret (v := .tuple #[.agg #[.int .i64 0, .string ⟨#[]⟩], .int .i64 70]) (by simp [results, Tryd.results19, go_sem]) rfl ⟨rfl, (by repeat (first | exact Below.refl _ _ | assumption | (refine Below.setCell ?_ (by (first | omega | (simp; done) | (simp; omega) | (simp at *; omega))) _) | (refine Below.alloc ?_ (by (first | omega | (simp; done) | (simp; omega) | (simp at *; omega))) _) | (refine Below.drew ?_) | (refine Gr.into _ ?_ (by (first | omega | (simp; done) | (simp; omega) | (simp at *; omega))))))⟩
theorem U64s.one (w : World) (n : Nat) (T : TypeId) (hn : n < 2 ^ 64) (k : Nat) (hk : k = w.heap.size) : U64s (w.alloc (.cells #[.int .u64 n] T)).heap.size (w.alloc (.cells #[.int .u64 n] T)) (.slice (some ⟨k, 0, none⟩) 1 1) [n] := by
  subst hk
  refine ⟨by simpa using hn, by simp, .inr ⟨w.heap.size, 0, 1, rfl, by simp, by simp, fun i hi => ?_⟩⟩
  obtain rfl : i = 0 := by simpa using hi
  exact (RowAt.of_new w #[.int .u64 n] T).cell 0 (by simp)
theorem add_any (B bw : Nat) (b : Nat) (s : ByteArray) (l : List UInt8) (v : Value) (zs : List Nat) (w : World) (h : IsWork B w bw b s l) (hb : isBitsB b = true) (hl : l.length = 2 ^ b) (hB : B ≤ w.heap.size)
    (hz : U64s B w v zs) : Calls Tryd.prog 32 #[.pointer (some ⟨bw, 0, none⟩), v] w (AddPost B w bw b s (addRegs b l zs)) := by
  obtain ⟨h1, h2, ⟨a, rfl, rfl⟩ | ⟨a, off, cap, rfl, h3, -, h4⟩⟩ := hz
  · exact add_nil a B bw b s l w h
  · exact add_some B bw a off cap b s l zs w h hb hl hB h1 h2 h3 h4
theorem rightB_bits {b : Int} {l : List UInt8} (h : rightB b l = true) : isBitsB b = true := by
  simp only [rightB, Bool.and_eq_true] at h; exact h.1.1
theorem rightB_len {b : Nat} {l : List UInt8} (h : rightB b l = true) : l.length = 2 ^ b := by
  simp only [rightB, Bool.and_eq_true] at h
  have := h.1.2
  simp [pwr] at this
  exact_mod_cast this
theorem added_yes (b : Nat) (s : ByteArray) (v : Value) (zs : List Nat) (w : World) (h : rightB b s.data.toList = true) (hz : U64s w.heap.size w v zs) :
    Calls Tryd.prog 19 #[.agg #[.int .i64 b, .string s], v] w fun e w' => e = hllRes b ⟨(addRegs b s.data.toList zs).toArray⟩ 0 ∧ Below w.heap.size w w' := by
  go_enter Tryd.func19, Tryd.ntmps19
  go_wp2_with (first
    | (go_at_call 25; refine Calls.mono (start_yes _ _ _ h) ?_; rintro e w' ⟨bw, rfl, hb1, hw1⟩))
  obtain ⟨g, rfl⟩ := Gr.of hb1
  have hgl := g.le
  simp only [World.size_alloc] at hgl hw1
  have hBg : Below w.heap.size w g.world := (by repeat (first | exact Below.refl _ _ | assumption | (refine Below.setCell ?_ (by (first | omega | (simp; done) | (simp; omega) | (simp at *; omega))) _) | (refine Below.alloc ?_ (by (first | omega | (simp; done) | (simp; omega) | (simp at *; omega))) _) | (refine Below.drew ?_) | (refine Gr.into _ ?_ (by (first | omega | (simp; done) | (simp; omega) | (simp at *; omega))))))
  have hz' := (hz.below hBg (Nat.le_refl _)).mono (C := w.heap.size + 1 + 1) (by omega)
  have hlen := rightB_len h
  refine (add_any _ _ _ _ _ _ _ _ hw1 (rightB_bits h) hlen hgl hz').mono ?_
  rintro e w2 ⟨rfl, hb2, hw2⟩
  obtain ⟨g2, rfl⟩ := Gr.of (w := (w.alloc (Obj.cells #[Value.int IntKind.i64 b, Value.string s] 26)).alloc (Obj.cells #[Value.int IntKind.i64 0, Value.string { data := #[] }] 26)) (w' := w2) (g.below.trans (by simpa using hb2))
  clear hb1 hw1 hb2
  go_wp2_with (first | (go_at_call 28; (first | (with_reducible refine Calls.mono (Calls.gr (end_any _ _ _ _ _ _ hw2)) ?_) | (refine Calls.mono (Calls.gr0 (end_any _ _ _ _ _ _ hw2)) ?_)); rintro e w' ⟨rfl, g, rfl⟩; have hgl := g.le; (try simp only [World.size_alloc] at hgl); (try simp only [World.size_setCell] at hgl)))
  exact bodyPost_ret (v := .tuple #[.agg #[.int .i64 b, .string ⟨(addRegs b s.data.toList zs).toArray⟩], .int .i64 0]) (by simp [results, Tryd.results19, go_sem]) rfl ⟨rfl, (by repeat (first | exact Below.refl _ _ | assumption | (refine Below.setCell ?_ (by (first | omega | (simp; done) | (simp; omega) | (simp at *; omega))) _) | (refine Below.alloc ?_ (by (first | omega | (simp; done) | (simp; omega) | (simp at *; omega))) _) | (refine Below.drew ?_) | (refine Gr.into _ ?_ (by (first | omega | (simp; done) | (simp; omega) | (simp at *; omega))))))⟩

theorem add_no (b n : Int) (s : ByteArray) (w : World) (h : rightB b s.data.toList = false) :
    Calls Tryd.prog 8 #[.agg #[.int .i64 b, .string s], .int .u64 n] w fun e w' => e = hllRes 0 ⟨#[]⟩ 70 ∧ Below w.heap.size w w' := by
  go_enter Tryd.func8, Tryd.ntmps8
  go_wp2_with (first | (go_at_call 19; (first | (with_reducible refine Calls.mono (Calls.gr (added_no _ _ _ _ h)) ?_) | (refine Calls.mono (Calls.gr0 (added_no _ _ _ _ h)) ?_)); rintro e w' ⟨rfl, g, rfl⟩; have hgl := g.le; (try simp only [World.size_alloc] at hgl); (try simp only [World.size_setCell] at hgl)))
  exact bodyPost_ret (v := .tuple #[.agg #[.int .i64 0, .string ⟨#[]⟩], .int .i64 70]) (by simp [results, Tryd.results8, go_sem]) rfl ⟨rfl, (by repeat (first | exact Below.refl _ _ | assumption | (refine Below.setCell ?_ (by (first | omega | (simp; done) | (simp; omega) | (simp at *; omega))) _) | (refine Below.alloc ?_ (by (first | omega | (simp; done) | (simp; omega) | (simp at *; omega))) _) | (refine Below.drew ?_) | (refine Gr.into _ ?_ (by (first | omega | (simp; done) | (simp; omega) | (simp at *; omega))))))⟩
theorem add_yes (b n : Nat) (s : ByteArray) (w : World) (h : rightB b s.data.toList = true) (hn : n < 2 ^ 64) :
    Calls Tryd.prog 8 #[.agg #[.int .i64 b, .string s], .int .u64 n] w fun e w' => e = hllRes b ⟨(addReg b s.data.toList n).toArray⟩ 0 ∧ Below w.heap.size w w' := by
  go_enter Tryd.func8, Tryd.ntmps8
  go_wp2_with (first | (go_at_call 19; (first | (with_reducible refine Calls.mono (Calls.gr (added_yes _ _ _ [n] _ h (U64s.one _ _ _ hn _ (by simp)))) ?_) | (refine Calls.mono (Calls.gr0 (added_yes _ _ _ [n] _ h (U64s.one _ _ _ hn _ (by simp)))) ?_)); rintro e w' ⟨rfl, g, rfl⟩; have hgl := g.le; (try simp only [World.size_alloc] at hgl); (try simp only [World.size_setCell] at hgl)))
  exact bodyPost_ret (v := .tuple #[.agg #[.int .i64 b, .string ⟨(addRegs b s.data.toList [n]).toArray⟩], .int .i64 0]) (by simp [results, Tryd.results8, go_sem]) rfl ⟨rfl, (by repeat (first | exact Below.refl _ _ | assumption | (refine Below.setCell ?_ (by (first | omega | (simp; done) | (simp; omega) | (simp at *; omega))) _) | (refine Below.alloc ?_ (by (first | omega | (simp; done) | (simp; omega) | (simp at *; omega))) _) | (refine Below.drew ?_) | (refine Gr.into _ ?_ (by (first | omega | (simp; done) | (simp; omega) | (simp at *; omega))))))⟩
def noRegs (b : Nat) : List UInt8 := List.replicate (2 ^ b) 0
theorem repeat_zero : ∀ c : Nat, Lib.repeatL [0] c = List.replicate c 0
  | 0 => rfl
  | c + 1 => by show [0] ++ Lib.repeatL [0] c = _; rw [repeat_zero c]; rfl
theorem new_no (b : Int) (w : World) (h : isBitsB b = false) :
    Calls Tryd.prog 9 #[.int .i64 b] w fun e w' => e = hllRes 0 ⟨#[]⟩ 70 ∧ Below w.heap.size w w' := by
  go_enter Tryd.func9, Tryd.ntmps9
  go_wp2_with (first
    | (go_at_call 20; (first | (with_reducible refine Calls.mono (Calls.gr (below_self (isBits_any _ _))) ?_) | (refine Calls.mono (Calls.gr0 (below_self (isBits_any _ _))) ?_)); rintro e w' ⟨rfl, g, rfl⟩; have hgl := g.le; (try simp only [World.size_alloc] at hgl); (try simp only [World.size_setCell] at hgl))
    | (go_at_call 21; (first | (with_reducible refine Calls.mono (Calls.gr (told_wrong _)) ?_) | (refine Calls.mono (Calls.gr0 (told_wrong _)) ?_)); rintro e w' ⟨rfl, g, rfl⟩; have hgl := g.le; (try simp only [World.size_alloc] at hgl); (try simp only [World.size_setCell] at hgl)))
  exact bodyPost_ret (v := .tuple #[.agg #[.int .i64 0, .string ⟨#[]⟩], .int .i64 70]) (by simp [results, Tryd.results9, go_sem]) rfl ⟨rfl, (by repeat (first | exact Below.refl _ _ | assumption | (refine Below.setCell ?_ (by (first | omega | (simp; done) | (simp; omega) | (simp at *; omega))) _) | (refine Below.alloc ?_ (by (first | omega | (simp; done) | (simp; omega) | (simp at *; omega))) _) | (refine Below.drew ?_) | (refine Gr.into _ ?_ (by (first | omega | (simp; done) | (simp; omega) | (simp at *; omega))))))⟩
theorem new_yes (b : Nat) (w : World) (h : isBitsB b = true) :
    Calls Tryd.prog 9 #[.int .i64 b] w fun e w' => e = hllRes b ⟨(noRegs b).toArray⟩ 0 ∧ Below w.heap.size w w' := by
  obtain ⟨h1, h2⟩ := isBits_bd h
  obtain ⟨c, hc⟩ : ∃ c : Nat, c = 2 ^ b := ⟨_, rfl⟩
  have hc' : c ≤ 256 := by rw [hc]; exact pow_small (by omega)
  have hp : wrap64 (2 ^ b) = (c : Int) := by
    have := pwr_wrap h1 h2
    rw [hc]
    simpa [pwr] using this
  have HC := Lib.hid hc
  clear hc
  have hrep : ∀ w : World, Calls Tryd.prog 22 #[.string ⟨#[0]⟩, .int .i64 c] w fun e w' => e = .returned (.string ⟨(Lib.repeatL [0] c).toArray⟩) ∧ Below w.heap.size w w' :=
    fun w => Tryd.strings_Repeat ⟨#[0]⟩ c w (by omega) (by show 1 * c ≤ _; omega)
  go_enter Tryd.func9, Tryd.ntmps9
  go_wp2_with (first
    | (go_at_call 20; (first | (with_reducible refine Calls.mono (Calls.gr (below_self (isBits_any _ _))) ?_) | (refine Calls.mono (Calls.gr0 (below_self (isBits_any _ _))) ?_)); rintro e w' ⟨rfl, g, rfl⟩; have hgl := g.le; (try simp only [World.size_alloc] at hgl); (try simp only [World.size_setCell] at hgl))
    | (go_at_call 22; (first | (with_reducible refine Calls.mono (Calls.gr (hrep _)) ?_) | (refine Calls.mono (Calls.gr0 (hrep _)) ?_)); rintro e w' ⟨rfl, g, rfl⟩; have hgl := g.le; (try simp only [World.size_alloc] at hgl); (try simp only [World.size_setCell] at hgl)))
  exact bodyPost_ret (v := .tuple #[.agg #[.int .i64 b, .string ⟨(Lib.repeatL [0] c).toArray⟩], .int .i64 0]) (by simp [results, Tryd.results9, go_sem]) rfl ⟨by rw [repeat_zero, HC.out]; rfl, (by repeat (first | exact Below.refl _ _ | assumption | (refine Below.setCell ?_ (by (first | omega | (simp; done) | (simp; omega) | (simp at *; omega))) _) | (refine Below.alloc ?_ (by (first | omega | (simp; done) | (simp; omega) | (simp at *; omega))) _) | (refine Below.drew ?_) | (refine Gr.into _ ?_ (by (first | omega | (simp; done) | (simp; omega) | (simp at *; omega))))))⟩

theorem of_no (b : Int) (v : Value) (w : World) (h : isBitsB b = false) :
    Calls Tryd.prog 6 #[.int .i64 b, v] w fun e w' => e = hllRes 0 ⟨#[]⟩ 70 ∧ Below w.heap.size w w' := by
  go_enter Tryd.func6, Tryd.ntmps6
  go_wp2_with (first
    | (go_at_call 9; (first | (with_reducible refine Calls.mono (Calls.gr (new_no _ _ h)) ?_) | (refine Calls.mono (Calls.gr0 (new_no _ _ h)) ?_)); rintro e w' ⟨rfl, g, rfl⟩; have hgl := g.le; (try simp only [World.size_alloc] at hgl); (try simp only [World.size_setCell] at hgl)))
  exact bodyPost_ret (v := .tuple #[.agg #[.int .i64 0, .string ⟨#[]⟩], .int .i64 70]) (by simp [results, Tryd.results6, go_sem]) rfl ⟨rfl, (by repeat (first | exact Below.refl _ _ | assumption | (refine Below.setCell ?_ (by (first | omega | (simp; done) | (simp; omega) | (simp at *; omega))) _) | (refine Below.alloc ?_ (by (first | omega | (simp; done) | (simp; omega) | (simp at *; omega))) _) | (refine Below.drew ?_) | (refine Gr.into _ ?_ (by (first | omega | (simp; done) | (simp; omega) | (simp at *; omega))))))⟩
theorem noRegs_right (b : Nat) (h : isBitsB b = true) : rightB b (noRegs b) = true := by
  obtain ⟨h1, h2⟩ := isBits_bd h
  unfold rightB
  rw [h]
  simp [noRegs, pwr, upTo]
  omega
theorem of_yes (b : Nat) (v : Value) (zs : List Nat) (w : World) (h : isBitsB b = true) (hz : U64s w.heap.size w v zs) :
    Calls Tryd.prog 6 #[.int .i64 b, v] w fun e w' => e = hllRes b ⟨(addRegs b (noRegs b) zs).toArray⟩ 0 ∧ Below w.heap.size w w' := by
  go_enter Tryd.func6, Tryd.ntmps6
  go_wp2_with (first
    | (go_at_call 9; (first | (with_reducible refine Calls.mono (Calls.gr (new_yes _ _ h)) ?_) | (refine Calls.mono (Calls.gr0 (new_yes _ _ h)) ?_)); rintro e w' ⟨rfl, g, rfl⟩; have hgl := g.le; (try simp only [World.size_alloc] at hgl); (try simp only [World.size_setCell] at hgl)))
  refine Calls.named (fun W hW => ?_)
  have r0 : RowAt W w.heap.size 26 [.int .i64 0, .string ⟨#[]⟩] := by rw [hW]; exact ((RowAt.of_new w _ _).gr g).alloc _
  have hB : Below w.heap.size w W := by rw [hW]; exact (by repeat (first | exact Below.refl _ _ | assumption | (refine Below.setCell ?_ (by (first | omega | (simp; done) | (simp; omega) | (simp at *; omega))) _) | (refine Below.alloc ?_ (by (first | omega | (simp; done) | (simp; omega) | (simp at *; omega))) _) | (refine Below.drew ?_) | (refine Gr.into _ ?_ (by (first | omega | (simp; done) | (simp; omega) | (simp at *; omega))))))
  have hz' := (hz.below hB (Nat.le_refl _)).mono hB.size
  obtain ⟨c0, c1, f0, f1, hlt⟩ := r0.two
  clear hW
  have hr := noRegs_right b h
  go_wp2_with (first | (go_at_call 19; (first | (with_reducible refine Calls.mono (Calls.gr (added_yes _ _ _ _ _ hr hz')) ?_) | (refine Calls.mono (Calls.gr0 (added_yes _ _ _ _ _ hr hz')) ?_)); rintro e w' ⟨rfl, g, rfl⟩; have hgl := g.le; (try simp only [World.size_alloc] at hgl); (try simp only [World.size_setCell] at hgl)))
  exact bodyPost_ret (v := .tuple #[.agg #[.int .i64 b, .string ⟨(addRegs b (noRegs b) zs).toArray⟩], .int .i64 0]) (by simp [results, Tryd.results6, go_sem, c0, c1, hlt]) rfl ⟨rfl, (by repeat (first | exact Below.refl _ _ | assumption | (refine Below.setCell ?_ (by (first | omega | (simp; done) | (simp; omega) | (simp at *; omega))) _) | (refine Below.alloc ?_ (by (first | omega | (simp; done) | (simp; omega) | (simp at *; omega))) _) | (refine Below.drew ?_) | (refine Gr.into _ ?_ (by (first | omega | (simp; done) | (simp; omega) | (simp at *; omega))))))⟩
end Go.Proofs.YtngahohheleeeaaDoor
