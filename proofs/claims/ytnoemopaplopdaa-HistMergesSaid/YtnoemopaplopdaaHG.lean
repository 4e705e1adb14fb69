/- Package hist: add at every slice, start. -/
import Derived.Test.YtnoemopaplopdaaHF
namespace Go.Proofs.Ytnoemopaplopdaa
open Go.RowKit Go.Maps

theorem add_any (B bw bm : Nat) (f : Int) (v : Value) (L M : List (Int × Nat)) (w : World) (hL : BinsAt w.heap.size w v L) (h2 : M.length + L.length ≤ 4611686018427387904)
    (hw : RowAt w bw 78 [.map (some bm), .int .i64 f]) (hM : CountsAt w bm M) (hF : FitM M) (hBm : B ≤ bm) (hBw : B ≤ w.heap.size) :
    Calls Try.prog 39 #[.pointer (some ⟨bw, 0, none⟩), v] w fun e w' => e = .returned (.tuple #[]) ∧ CountsAt w' bm (L.foldl addB M) ∧ RowAt w' bw 78 [.map (some bm), .int .i64 f] ∧ Below B w w' ∧ (∀ k, k < w.heap.size → k ≠ bm → w'.heap[k]? = w.heap[k]?) := by
  obtain ⟨h1, -, ⟨a, rfl, rfl⟩ | ⟨a, off, cap, rfl, h3, hc, h4⟩⟩ := hL
  · rcases a with _ | a
    all_goals
      go_enter Try.func39, Try.ntmps39
      go_wp2
      refine wp_loop_rounds 1 ?_
      rw [rounds_succ]
      go_wp2
      go_end0
      exact ⟨rfl, hM, hw, Below.refl _ _, fun _ _ _ => rfl⟩
  · exact add_some B bw bm a off cap f L M w h1 h2 h3 h4 hw hM hF hBm hBw

theorem start_no (f : Int) (v : Value) (L : List (Int × Nat)) (w : World) (hL : BinsAt w.heap.size w v L) (h : rightL f L = false) :
    Calls Try.prog 37 #[HistV f v] w fun e w' => e = .returned (.tuple #[.pointer none, .iface 73 (.agg #[])]) ∧ Below w.heap.size w w' := by
  have hR : ∀ W, Below w.heap.size w W → Calls Try.prog 19 #[HistV f v] W fun e w' => e = .returned (.bool false) ∧ Below W.heap.size W w' := fun W hb => h ▸ right_any f v L W (hL.at_ hb)
  go_enter Try.func37, Try.ntmps37
  go_wp2_with fail
  with_reducible refine Calls.mono (Calls.gr0 (hR _ (by repeat (first | exact Below.refl _ _ | assumption | (refine Below.setCell ?_ (by (first | omega | (simp; done) | (simp; omega) | (simp at *; omega))) _) | (refine Below.alloc ?_ (by (first | omega | (simp; done) | (simp; omega) | (simp at *; omega))) _) | (refine Below.drew ?_) | (refine Gr.into _ ?_ (by (first | omega | (simp; done) | (simp; omega) | (simp at *; omega)))))))) ?_
  rintro e w' ⟨rfl, g, rfl⟩
  have hgl := g.le
  try simp only [World.size_alloc] at hgl
  try simp only [World.size_setCell] at hgl
  go_wp2_with fail
  go_ret2
  exact ⟨rfl, (by repeat (first | exact Below.refl _ _ | assumption | (refine Below.setCell ?_ (by (first | omega | (simp; done) | (simp; omega) | (simp at *; omega))) _) | (refine Below.alloc ?_ (by (first | omega | (simp; done) | (simp; omega) | (simp at *; omega))) _) | (refine Below.drew ?_) | (refine Gr.into _ ?_ (by (first | omega | (simp; done) | (simp; omega) | (simp at *; omega))))))⟩
/-- What a histogram at work is. -/
def StartPost (w : World) (f : Int) (M : List (Int × Nat)) (e : Ending) (w' : World) : Prop :=
  ∃ bw bm : Nat, e = .returned (.tuple #[.pointer (some ⟨bw, 0, none⟩), .nilIface]) ∧ w.heap.size ≤ bw ∧ w.heap.size ≤ bm ∧ CountsAt w' bm M ∧ RowAt w' bw 78 [.map (some bm), .int .i64 f] ∧ Below w.heap.size w w'
theorem start_yes (f : Int) (v : Value) (L : List (Int × Nat)) (w : World) (hL : BinsAt w.heap.size w v L) (h : rightL f L = true) :
    Calls Try.prog 37 #[HistV f v] w (StartPost w f (L.foldl addB [])) := by
  have hR : ∀ W, Below w.heap.size w W → Calls Try.prog 19 #[HistV f v] W fun e w' => e = .returned (.bool true) ∧ Below W.heap.size W w' := fun W hb => h ▸ right_any f v L W (hL.at_ hb)
  have hmk : ∀ w : World, Sem.run Try.prog (Instr.makeMap 76 none) w = .ok (.map (some w.heap.size)) (w.alloc (.map #[] 0)) := fun w => rfl
  have hcell : ∀ (g : Gr (w.alloc (.cells #[.int .i64 f, v] 25))) (u : Value), ((g.world.alloc (.map #[] 0)).alloc (.cells #[u, .int .i64 f] 78)).cell? ⟨w.heap.size, 1, none⟩ = some v := fun g u => by
    have hg := g.le
    simp only [World.size_alloc] at hg
    have r := ((RowAt.new_at w #[.int .i64 f, v] 25 w.heap.size rfl).gr g).alloc (.map #[] 0) |>.alloc (.cells #[u, .int .i64 f] 78)
    exact r.cell 1 (by simp)
  go_enter Try.func37, Try.ntmps37
  go_wp2_with fail
  with_reducible refine Calls.mono (Calls.gr0 (hR _ (by repeat (first | exact Below.refl _ _ | assumption | (refine Below.setCell ?_ (by (first | omega | (simp; done) | (simp; omega) | (simp at *; omega))) _) | (refine Below.alloc ?_ (by (first | omega | (simp; done) | (simp; omega) | (simp at *; omega))) _) | (refine Below.drew ?_) | (refine Gr.into _ ?_ (by (first | omega | (simp; done) | (simp; omega) | (simp at *; omega)))))))) ?_
  rintro e w' ⟨rfl, g, rfl⟩
  have hgl := g.le
  try simp only [World.size_alloc] at hgl
  try simp only [World.size_setCell] at hgl
  go_wp2_with fail
  refine Calls.named (fun W hW => ?_)
  have hBW : Below w.heap.size w W := by rw [hW]; exact (by repeat (first | exact Below.refl _ _ | assumption | (refine Below.setCell ?_ (by (first | omega | (simp; done) | (simp; omega) | (simp at *; omega))) _) | (refine Below.alloc ?_ (by (first | omega | (simp; done) | (simp; omega) | (simp at *; omega))) _) | (refine Below.drew ?_) | (refine Gr.into _ ?_ (by (first | omega | (simp; done) | (simp; omega) | (simp at *; omega))))))
  have q : RowAt W (g.world.heap.size + 1) 78 [.map (some g.world.heap.size), .int .i64 f] := by rw [hW]; exact (by repeat (first | assumption | exact RowAt.new_at _ _ _ _ (by (first | omega | (simp; done) | (simp; omega) | (simp at *; omega))) | (refine RowAt.alloc ?_ _) | (refine RowAt.gr ?_ _) | (refine RowAt.setOther ?_ _ _ (by (first | omega | (simp; done) | (simp; omega) | (simp at *; omega)))) | (refine RowAt.drew ?_)))
  have hC0 : CountsAt W g.world.heap.size [] := by rw [hW]; exact CountsAt.of (World.ownsMap.alloc (World.ownsMap_made _ _ _ _) _)
  clear hW
  obtain ⟨qc0, qc1, qf0, qf1, ql⟩ := q.two
  refine Calls.mono (add_any (w.heap.size + 1) _ _ f v L [] W (hL.at_ hBW) (by have := hL.2.1; simpa using this) q hC0 (fun p hp => by cases hp) (by omega) (by have := hBW.size; omega)) ?_
  rintro e w2 ⟨rfl, hC1, q1, hB1, hO1⟩
  go_wp2_with fail
  go_ret2
  exact ⟨_, _, rfl, by omega, by omega, hC1, q1, hBW.trans (hB1.mono (by omega))⟩
end Go.Proofs.Ytnoemopaplopdaa
