/- Package label: labels in memory; pairs; what is no label. -/
import Derived.Test.YtjhdgpboofcelaaDoorC2
import Derived.Test.YtjhdgpboofcelaaDoorFence
import Derived.Test.YtjhdgpboofcelaaDoorSl
namespace Go.Proofs.YtjhdgpboofcelaaDoor
open Go.RowKit
open Go.Lib (decodeL validD)

abbrev BLab : Type := ByteArray × ByteArray
/-- A slice of labels, in memory below block B. -/
def LabelsAt (B : Nat) (w : World) (v : Value) (L : List BLab) : Prop :=
  (∀ x ∈ L, x.1.size ≤ 1000000 ∧ x.2.size ≤ 1000000) ∧ L.length ≤ 1000000 ∧ ((∃ a, v = .slice a 0 0 ∧ L = []) ∨
    ∃ a off cap : Nat, v = .slice (some ⟨a, off, none⟩) L.length cap ∧ a < B ∧ L.length ≤ cap ∧
      ∀ i (h : i < L.length), w.cell? ⟨a, off + i * 2, none⟩ = some (.string L[i].1) ∧ w.cell? ⟨a, off + i * 2 + 1, none⟩ = some (.string L[i].2))
theorem LabelsAt.below {B C : Nat} {w w' : World} {v : Value} {L : List BLab} (h : LabelsAt B w v L) (hb : Below C w w') (hC : B ≤ C) : LabelsAt B w' v L := by
  obtain ⟨h1, h2, h3⟩ := h
  refine ⟨h1, h2, h3.imp id ?_⟩
  rintro ⟨a, off, cap, h4, h5, hc, h6⟩
  exact ⟨a, off, cap, h4, h5, hc, fun i hi => by rw [hb.cell (by show a < C; omega), hb.cell (by show a < C; omega)]; exact h6 i hi⟩
theorem LabelsAt.mono {B C : Nat} {w : World} {v : Value} {L : List BLab} (h : LabelsAt B w v L) (hC : B ≤ C) : LabelsAt C w v L := by
  obtain ⟨h1, h2, h3⟩ := h
  refine ⟨h1, h2, h3.imp id ?_⟩
  rintro ⟨a, off, cap, h4, h5, hc, h6⟩
  exact ⟨a, off, cap, h4, by omega, hc, h6⟩
theorem LabelsAt.at_ {w W : World} {v : Value} {L : List BLab} (h : LabelsAt w.heap.size w v L) (hb : Below w.heap.size w W) : LabelsAt W.heap.size W v L :=
  (h.below hb (Nat.le_refl _)).mono hb.size
theorem LabelsAt.nil (B : Nat) (w : World) : LabelsAt B w (.slice none 0 0) [] := ⟨fun _ h => (by cases h), by simp, .inl ⟨_, rfl, rfl⟩⟩

/-- A label's two texts. -/
abbrev LabV (x : BLab) : Value := .agg #[.string x.1, .string x.2]
def otherB (x : BLab) : Bool := !(nameB x.1.data.toList && valueB x.2.data.toList)
theorem label_fields : (Tryd.prog.fieldsOf 37).toList.map (fun f => (f.name, f.type, f.offset)) = [("Name", 9, 0), ("Value", 9, 1)] := by kernel_rfl
theorem neq_label (w : World) (a b c d : ByteArray) : Sem.run Tryd.prog (binOp .neq 37 (.agg #[.string a, .string b]) (.agg #[.string c, .string d])) w = .ok (.bool (!(a.toList == c.toList && b.toList == d.toList))) w := by
  have ht : Tryd.prog.underlying 37 = some (.struct (Tryd.prog.fieldsOf 37)) := by kernel_rfl
  have hp : Tryd.prog.stoodInHeld 37 = false := by kernel_rfl
  have hf := label_fields
  rw [run_neq_struct, run_equalIn_agg w 9999 _ _ _ ht hp]
  generalize (Tryd.prog.fieldsOf 37).toList = l at hf
  obtain ⟨f, l, rfl⟩ : ∃ f l', l = f :: l' := by cases l with | nil => simp at hf | cons f l => exact ⟨f, l, rfl⟩
  obtain ⟨g, l, rfl⟩ : ∃ f l', l = f :: l' := by cases l with | nil => simp at hf | cons f l => exact ⟨f, l, rfl⟩
  obtain rfl : l = [] := by cases l with | nil => rfl | cons f l => simp at hf
  simp only [List.map_cons, List.map_nil, List.cons.injEq, Prod.mk.injEq, and_true] at hf
  obtain ⟨⟨f1, f2, f3⟩, ⟨g1, g2, g3⟩⟩ := hf
  have hs : Tryd.prog.underlying 9 = some .string := by kernel_rfl
  have p1 : ∀ (x y : ByteArray), Sem.run Tryd.prog (part 9 #[.string x, .string y] 0) w = .ok (.string x) w := fun _ _ => by kernel_rfl
  have p2 : ∀ (x y : ByteArray), Sem.run Tryd.prog (part 9 #[.string x, .string y] 1) w = .ok (.string y) w := fun _ _ => by kernel_rfl
  simp only [Op.eqFields, f1, f2, f3, g1, g2, g3, Sem.run_bind, Sem.run_ite, p1, p2, Result.andThen_ok, run_equalIn_string w _ _ _ _ hs, ne_eq, String.reduceEq, not_false_eq_true, if_true]
  cases h1 : (a.toList == c.toList)
  · simp
  · cases h2 : (b.toList == d.toList) <;> simp
theorem other_lab (x : BLab) (w : World) (h1 : x.1.size ≤ 1000000) (h2 : x.2.size ≤ 1000000) :
    Calls Tryd.prog 23 #[LabV x] w fun e w' => e = .returned (.bool (otherB x)) ∧ Below w.heap.size w w' := by
  obtain ⟨n, v⟩ := x
  have hN := fun W => isName_any n W (by simp at h1; omega)
  have hV := fun W => isValue_any v W (by simp at h2; omega)
  have hq := fun w => neq_label w n v
  unfold otherB
  simp only
  clear h1 h2
  cases hn : nameB n.data.toList
  · rw [hn] at hN
    go_enter Tryd.func23, Tryd.ntmps23
    go_wp2_with (go_at_call 24; (first | (with_reducible refine Calls.mono (Calls.gr (hN _)) ?_) | (refine Calls.mono (Calls.gr0 (hN _)) ?_)); rintro e w' ⟨rfl, g, rfl⟩; have hgl := g.le; (try simp only [World.size_alloc] at hgl); (try simp only [World.size_setCell] at hgl))
    go_ret
    exact ⟨rfl, (by repeat (first | exact Below.refl _ _ | assumption | (refine Below.setCell ?_ (by (first | omega | (simp; done) | (simp; omega) | (simp at *; omega))) _) | (refine Below.alloc ?_ (by (first | omega | (simp; done) | (simp; omega) | (simp at *; omega))) _) | (refine Below.drew ?_) | (refine Gr.into _ ?_ (by (first | omega | (simp; done) | (simp; omega) | (simp at *; omega))))))⟩
  · rw [hn] at hN
    generalize valueB v.data.toList = V at *
    go_enter Tryd.func23, Tryd.ntmps23
    go_wp2_with (first | (go_at_call 24; (first | (with_reducible refine Calls.mono (Calls.gr (hN _)) ?_) | (refine Calls.mono (Calls.gr0 (hN _)) ?_)); rintro e w' ⟨rfl, g, rfl⟩; have hgl := g.le; (try simp only [World.size_alloc] at hgl); (try simp only [World.size_setCell] at hgl)) | (go_at_call 25; (first | (with_reducible refine Calls.mono (Calls.gr (hV _)) ?_) | (refine Calls.mono (Calls.gr0 (hV _)) ?_)); rintro e w' ⟨rfl, g, rfl⟩; have hgl := g.le; (try simp only [World.size_alloc] at hgl); (try simp only [World.size_setCell] at hgl)))
    go_ret
    exact ⟨by simp, (by repeat (first | exact Below.refl _ _ | assumption | (refine Below.setCell ?_ (by (first | omega | (simp; done) | (simp; omega) | (simp at *; omega))) _) | (refine Below.alloc ?_ (by (first | omega | (simp; done) | (simp; omega) | (simp at *; omega))) _) | (refine Below.drew ?_) | (refine Gr.into _ ?_ (by (first | omega | (simp; done) | (simp; omega) | (simp at *; omega))))))⟩
end Go.Proofs.YtjhdgpboofcelaaDoor
