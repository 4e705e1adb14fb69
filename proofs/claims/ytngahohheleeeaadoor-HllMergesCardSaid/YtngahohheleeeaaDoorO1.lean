/- The walk of hll.Count. -/
import Derived.Test.YtngahohheleeeaaDoorO0
import Derived.Test.YtngahohheleeeaaDoorTail
namespace Go.Proofs.YtngahohheleeeaaDoor
open Go.RowKit

theorem trim_any (s : ByteArray) (w : World) (hs : s.size ≤ 256) :
    Calls Tryd.prog 23 #[.string s, .string ⟨#[0]⟩] w fun e w' => e = .returned (.string ⟨(Lib.trimB s.data.toList 0).toArray⟩) ∧ Below w.heap.size w w' :=
  (Tryd.strings_Trim_one s 0 (by decide) w (by omega)).mono fun e w' h => ⟨h.1, by
    rcases h.2 with h2 | h2
    · rw [h2]; exact Below.refl _ _
    · rw [h2]; exact (Below.refl _ _).drew⟩

theorem count_no (b : Int) (s : ByteArray) (w : World) (h : rightB b s.data.toList = false) :
    Calls Tryd.prog 10 #[.agg #[.int .i64 b, .string s]] w fun e w' => e = .returned (.int .u64 0) ∧ Below w.heap.size w w' := by
  go_enter Tryd.func10, Tryd.ntmps10
  have hr := fun w => right_any b s w
  rw [h] at hr
  go_wp2_with (first
    | (go_at_call 11; (first | (with_reducible refine Calls.mono (Calls.gr (hr _)) ?_) | (refine Calls.mono (Calls.gr0 (hr _)) ?_)); rintro e w' ⟨rfl, g, rfl⟩; have hgl := g.le; (try simp only [World.size_alloc] at hgl); (try simp only [World.size_setCell] at hgl)))
  go_ret
  exact ⟨rfl, (by repeat (first | exact Below.refl _ _ | assumption | (refine Below.setCell ?_ (by (first | omega | (simp; done) | (simp; omega) | (simp at *; omega))) _) | (refine Below.alloc ?_ (by (first | omega | (simp; done) | (simp; omega) | (simp at *; omega))) _) | (refine Below.drew ?_) | (refine Gr.into _ ?_ (by (first | omega | (simp; done) | (simp; omega) | (simp at *; omega))))))⟩

theorem count_zero (b : Nat) (s : ByteArray) (w : World) (h : rightB b s.data.toList = true) (hz : zeroB s.data.toList = true) :
    Calls Tryd.prog 10 #[.agg #[.int .i64 b, .string s]] w fun e w' => e = .returned (.int .u64 0) ∧ Below w.heap.size w w' := by
  have hl := rightB_len h
  have h8 := (rightB_iff b _).1 h
  have hs : s.size ≤ 256 := by have := pow_small (b := b) h8.2.1; have e : s.size = s.data.toList.length := (by simp); rw [e, h8.2.2.1]; exact this
  have ht := fun w => trim_any s w hs
  rw [(trim_zero _).2 hz] at ht
  clear hl h8
  have hr := fun w => right_any b s w
  rw [h] at hr
  go_enter Tryd.func10, Tryd.ntmps10
  go_wp2_with (first
    | (go_at_call 11; (first | (with_reducible refine Calls.mono (Calls.gr (hr _)) ?_) | (refine Calls.mono (Calls.gr0 (hr _)) ?_)); rintro e w' ⟨rfl, g, rfl⟩; have hgl := g.le; (try simp only [World.size_alloc] at hgl); (try simp only [World.size_setCell] at hgl))
    | (go_at_call 23; (first | (with_reducible refine Calls.mono (Calls.gr (ht _)) ?_) | (refine Calls.mono (Calls.gr0 (ht _)) ?_)); rintro e w' ⟨rfl, g, rfl⟩; have hgl := g.le; (try simp only [World.size_alloc] at hgl); (try simp only [World.size_setCell] at hgl)))
  go_ret
  exact ⟨rfl, (by repeat (first | exact Below.refl _ _ | assumption | (refine Below.setCell ?_ (by (first | omega | (simp; done) | (simp; omega) | (simp at *; omega))) _) | (refine Below.alloc ?_ (by (first | omega | (simp; done) | (simp; omega) | (simp at *; omega))) _) | (refine Below.drew ?_) | (refine Gr.into _ ?_ (by (first | omega | (simp; done) | (simp; omega) | (simp at *; omega))))))⟩
end Go.Proofs.YtngahohheleeeaaDoor
