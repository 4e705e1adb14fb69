/- LabelTexts: the walk. -/
import Derived.Test.YtjhdgpboofcelaaGreatEF
namespace Go.Proofs.YtjhdgpboofcelaaGreat
open Go.RowKit

theorem cut_short (J : List BLab) : Short (J.map cutLab) := by
  intro x hx
  obtain ⟨y, -, rfl⟩ := List.mem_map.1 hx
  have := cutLab_size y
  omega
theorem getV_form (o : Option ByteArray) : ∃ c ok, GetV o = .tuple #[.string c, .bool ok] := by
  cases o
  · exact ⟨_, _, rfl⟩
  · exact ⟨_, _, rfl⟩
set_option maxRecDepth 100000 in
set_option maxHeartbeats 1000000 in
theorem labelTexts_law (p : Option Addr) (len cap : Nat) (J : List BLab) (hn : J.length = min len 10) (w : World) (hc : CameAt w p J) (name : ByteArray) :
    Calls Tryz.prog 7 #[.slice p len cap, .string name] w fun e w' => e = .returned (.bool true) ∧ Below w.heap.size w w' := by
  have hF : ∀ W, Below w.heap.size w W → Calls Tryz.prog 17 #[.slice p len cap] W fun e w' => Below W.heap.size W w' ∧ ∃ v, e = .returned v ∧ LabelsAt w'.heap.size w' v (J.map cutLab) := fun W hb => few_any p len cap J W hn (came_below hc hb)
  have hsh := cut_short J
  generalize J.map cutLab = L at *
  clear hn hc
  have r1 := fun v W h => right_any v L W h
  have r2 := fun v W h => rright_any v L W h hsh
  have t1 := fun v W h => text_any v L W h
  have t2 := fun v W h => rtext_any v L W h hsh
  have g1 := fun v W h => get_any v L name W h
  have g2 := fun v W h => rget_any v L name W h
  generalize (if rightA L = true then (⟨(textA L).toArray⟩ : ByteArray) else ⟨#[]⟩) = T at *
  generalize (if rightA L = true then (0 : Int) else 40) = E at *
  obtain ⟨c, ok, hg⟩ := getV_form (getA L name)
  rw [hg] at g1 g2
  generalize rightA L = R at *
  clear hg hsh
  go_enter Tryz.func7, Tryz.ntmps7
  go_wp2_with fail
  refine (shown_any _).mono ?_
  rintro e w1 ⟨rfl, B1⟩
  have s1 := B1.size
  go_wp2_with fail
  refine (hF _ B1).mono ?_
  rintro e w2 ⟨B2, v, rfl, hL⟩
  have C2 := B1.trans (B2.mono s1)
  have s2 := C2.size
  go_wp2_with fail
  refine (t1 v _ hL).mono ?_
  rintro e w3 ⟨rfl, B3⟩
  have C3 := C2.trans (B3.mono s2)
  have s3 := C3.size
  have hL := hL.at_ B3
  go_wp2_with fail
  refine (t2 v _ hL).mono ?_
  rintro e w4 ⟨rfl, B4⟩
  have C4 := C3.trans (B4.mono s3)
  have s4 := C4.size
  have hL := hL.at_ B4
  go_wp2_with fail
  refine (g1 v _ hL).mono ?_
  rintro e w5 ⟨rfl, B5⟩
  have C5 := C4.trans (B5.mono s4)
  have s5 := C5.size
  have hL := hL.at_ B5
  go_wp2_with fail
  refine (g2 v _ hL).mono ?_
  rintro e w6 ⟨rfl, B6⟩
  have C6 := C5.trans (B6.mono s5)
  have s6 := C6.size
  have hL := hL.at_ B6
  go_wp2_with fail
  refine (r1 v _ hL).mono ?_
  rintro e w7 ⟨rfl, B7⟩
  have C7 := C6.trans (B7.mono s6)
  have s7 := C7.size
  have hL := hL.at_ B7
  go_wp2_with fail
  refine (r2 v _ hL).mono ?_
  rintro e w8 ⟨rfl, B8⟩
  have C8 := C7.trans (B8.mono s7)
  clear hL B1 B2 B3 B4 B5 B6 B7 B8 C2 C3 C4 C5 C6 C7 r1 r2 t1 t2 g1 g2 hF
  go_wp2_with fail
  go_ret
  exact ⟨by simp, C8⟩
end Go.Proofs.YtjhdgpboofcelaaGreat
