/- Package label: the reader takes a value's rune. -/
import Derived.Test.YtjhdgpboofcelaaGreatD5
namespace Go.Proofs.YtjhdgpboofcelaaGreat
open Go.RowKit

theorem RdAt.cells {M : Nat} {w : World} {b : Nat} {r : Rd} {nv : Value} (h : RdAt M w b r nv) : w.cell? ⟨b, 1, none⟩ = some (.string r.value) ∧ w.cell? ⟨b, 3, none⟩ = some nv ∧ w.cell? ⟨b, 4, none⟩ = some (.bool r.esc) ∧ w.cell? ⟨b, 5, none⟩ = some (.bool r.inVal) ∧
    w.frozen? ⟨b, 1, none⟩ = false ∧ w.frozen? ⟨b, 3, none⟩ = false ∧ w.frozen? ⟨b, 4, none⟩ = false ∧ b < w.heap.size := by
  obtain ⟨h1, h2, v, h3, h4⟩ := h
  exact ⟨h3.cell 1 (by simp [rdCells]), h3.cell 3 (by simp [rdCells]), h3.cell 4 (by simp [rdCells]), h3.cell 5 (by simp [rdCells]), h3.frozen 1 (by simp [rdCells]), h3.frozen 3 (by simp [rdCells]), h3.frozen 4 (by simp [rdCells]), h3.lt⟩
/-- The map of what a value's rune does, behind the world. -/
abbrev doesW (w : World) (b : Nat) : World := w.alloc (.map #[⟨.string ⟨#[44]⟩, .func (.func 50) #[.pointer (some ⟨b, 0, none⟩)] #[], 0⟩, ⟨.string ⟨#[92]⟩, .func (.func 70) #[.pointer (some ⟨b, 0, none⟩)] #[], 1⟩] 2)

set_option maxRecDepth 100000 in
set_option maxHeartbeats 1000000 in
theorem value_other (B M b : Nat) (r : Rd) (s : ByteArray) (nv : Value) (w : World) (h : RdAt M w b r nv) (hB : B ≤ b) (hs : r.value.size + s.size ≤ 1000000) (hk : ((keyIs s 44 || keyIs s 92) && !r.esc) = false) :
    Calls Tryz.prog 61 #[.pointer (some ⟨b, 0, none⟩), .string s] w fun e w' => e = .returned .nilIface ∧ RdAt M w' b { r with esc := false, value := r.value ++ s } nv ∧ Stay B M b w w' := by
  have hmf : ∀ (fn : Fn) (first cap : Array Value) (w : World), (Instr.makeFunc fn first cap).run Tryz.prog w = .ok (.func fn first cap) w := fun _ _ _ _ => rfl
  have hmk : ∀ w : World, Sem.run Tryz.prog (Instr.makeMap 107 none) w = .ok (.map (some w.heap.size)) (w.alloc (.map #[] 0)) := fun w => rfl
  have hm1 := map_one w
  have hm2 := map_two w
  have hm3 := fun f g => map_look w f g s
  obtain ⟨c1, c3, c4, c5, f1, f3, f4, hbl⟩ := h.cells
  have fin : ∀ e : Bool, r.esc = e → ∀ o : Obj, RdAt M (((w.setCell ⟨b, 4, none⟩ (.bool false)).setCell ⟨b, 1, none⟩ (.string (r.value ++ s))).alloc o) b { r with esc := false, value := r.value ++ s } nv ∧ Stay B M b w (((w.setCell ⟨b, 4, none⟩ (.bool false)).setCell ⟨b, 1, none⟩ (.string (r.value ++ s))).alloc o) := by
    intro e _ o
    obtain ⟨h1, h2, v, h3, h4⟩ := h
    have hX : RdAt M ((w.setCell ⟨b, 4, none⟩ (.bool false)).setCell ⟨b, 1, none⟩ (.string (r.value ++ s))) b { r with esc := false, value := r.value ++ s } nv :=
      ⟨h1, by simpa using h2, v, (h3.set 4 (.bool false)).set 1 (.string (r.value ++ s)), ownsRow_set (ownsRow_set h4 _ _ h1) _ _ h1⟩
    exact ⟨hX.into ((Below.refl _ _).alloc (Nat.le_refl _) _), (((Stay.refl B M b w).setCell hB _ _).setCell hB _ _).alloc (by simp; omega) _⟩
  have FIN := Lib.hid fin
  clear fin
  cases h1 : keyIs s 44
  · cases h2 : keyIs s 92
    · rw [h1, h2] at hm3
      simp only [Bool.false_eq_true, if_false] at hm3
      clear h1 h2 hk
      go_enter Tryz.func61, Tryz.ntmps61
      go_wp2
      go_ret
      exact ⟨rfl, FIN.out _ rfl _⟩
    · rw [h1, h2] at hm3
      simp only [Bool.false_eq_true, if_false, if_true] at hm3
      have he : r.esc = true := by rw [h1, h2] at hk; simpa using hk
      rw [he] at c4
      clear h1 h2 hk he
      go_enter Tryz.func61, Tryz.ntmps61
      go_wp2
      go_ret
      exact ⟨rfl, FIN.out _ rfl _⟩
  · rw [h1] at hm3
    simp only [if_true] at hm3
    have he : r.esc = true := by rw [h1] at hk; simpa using hk
    rw [he] at c4
    clear h1 hk he
    go_enter Tryz.func61, Tryz.ntmps61
    go_wp2
    go_ret
    exact ⟨rfl, FIN.out _ rfl _⟩
set_option maxRecDepth 100000 in
set_option maxHeartbeats 1000000 in
theorem value_ends (B M b : Nat) (r : Rd) (s : ByteArray) (nv : Value) (w : World) (h : RdAt M w b r nv) (hB : B ≤ b) (hl : r.all.length ≤ 1000000) (h1 : keyIs s 44 = true) (he : r.esc = false) :
    Calls Tryz.prog 61 #[.pointer (some ⟨b, 0, none⟩), .string s] w fun e w' => e = .returned .nilIface ∧ RdAt M w' b { name := ⟨#[]⟩, value := ⟨#[]⟩, all := r.all ++ [(r.name, r.value)], inVal := false, esc := r.esc } (nextV b false) ∧ Stay B M b w w' := by
  have hmf : ∀ (fn : Fn) (first cap : Array Value) (w : World), (Instr.makeFunc fn first cap).run Tryz.prog w = .ok (.func fn first cap) w := fun _ _ _ _ => rfl
  have hmk : ∀ w : World, Sem.run Tryz.prog (Instr.makeMap 107 none) w = .ok (.map (some w.heap.size)) (w.alloc (.map #[] 0)) := fun w => rfl
  have hm1 := map_one w
  have hm2 := map_two w
  have hm3 := fun f g => map_look w f g s
  rw [h1] at hm3
  simp only [if_true] at hm3
  have hb : Below w.heap.size w (doesW w b) := (Below.refl _ w).alloc (Nat.le_refl _) _
  have hR := h.into hb
  obtain ⟨c1, c3, c4, c5, f1, f3, f4, hbl⟩ := hR.cells
  have hbw := h.cells.2.2.2.2.2.2.2
  rw [he] at c4
  have hE := ends_any B M b r nv (doesW w b) hR hB hl
  clear h1 he
  go_enter Tryz.func61, Tryz.ntmps61
  go_wp2_with (go_at_call 50; refine hE.mono ?_; rintro e w2 ⟨rfl, hR2, hb2⟩)
  go_ret
  exact ⟨rfl, hR2, (Stay.of_below hb (by omega)).trans hb2⟩
set_option maxRecDepth 100000 in
set_option maxHeartbeats 1000000 in
theorem value_escapes (B M b : Nat) (r : Rd) (s : ByteArray) (nv : Value) (w : World) (h : RdAt M w b r nv) (hB : B ≤ b) (h0 : keyIs s 44 = false) (h1 : keyIs s 92 = true) (he : r.esc = false) :
    Calls Tryz.prog 61 #[.pointer (some ⟨b, 0, none⟩), .string s] w fun e w' => e = .returned .nilIface ∧ RdAt M w' b { r with esc := true } nv ∧ Stay B M b w w' := by
  have hmf : ∀ (fn : Fn) (first cap : Array Value) (w : World), (Instr.makeFunc fn first cap).run Tryz.prog w = .ok (.func fn first cap) w := fun _ _ _ _ => rfl
  have hmk : ∀ w : World, Sem.run Tryz.prog (Instr.makeMap 107 none) w = .ok (.map (some w.heap.size)) (w.alloc (.map #[] 0)) := fun w => rfl
  have hm1 := map_one w
  have hm2 := map_two w
  have hm3 := fun f g => map_look w f g s
  rw [h0, h1] at hm3
  simp only [Bool.false_eq_true, if_false, if_true] at hm3
  have hb : Below w.heap.size w (doesW w b) := (Below.refl _ w).alloc (Nat.le_refl _) _
  have hR := h.into hb
  obtain ⟨c1, c3, c4, c5, f1, f3, f4, hbl⟩ := hR.cells
  have hbw := h.cells.2.2.2.2.2.2.2
  rw [he] at c4
  have hE := escapes_any B M b r nv (doesW w b) hR hB
  clear h1 he h0
  go_enter Tryz.func61, Tryz.ntmps61
  go_wp2_with (go_at_call 70; refine hE.mono ?_; rintro e w2 ⟨rfl, hR2, hb2⟩)
  go_ret
  exact ⟨rfl, hR2, (Stay.of_below hb (by omega)).trans hb2⟩
theorem value_any (B M b : Nat) (r : Rd) (s : ByteArray) (w : World) (h : RdAt M w b r (nextV b true)) (hv : r.inVal = true) (hB : B ≤ b) (hs : r.value.size + s.size ≤ 1000000) (hl : r.all.length ≤ 1000000) :
    Calls Tryz.prog 61 #[.pointer (some ⟨b, 0, none⟩), .string s] w fun e w' => e = .returned .nilIface ∧ RdAt M w' b (r.step s) (nextV b (r.step s).inVal) ∧ Stay B M b w w' := by
  unfold Rd.step
  rw [if_pos hv]
  cases h1 : keyIs s 44 && !r.esc
  · rw [if_neg (by simp)]
    cases h2 : keyIs s 92 && !r.esc
    · rw [if_neg (by simp)]
      have := value_other B M b r s (nextV b true) w h hB hs (by cases h3 : r.esc <;> simp_all)
      simpa [hv] using this
    · rw [if_pos rfl]
      simp only [Bool.and_eq_true, Bool.not_eq_true'] at h2
      have := value_escapes B M b r s (nextV b true) w h hB (by simpa [h2.2] using h1) h2.1 h2.2
      simpa [hv] using this
  · rw [if_pos rfl]
    simp only [Bool.and_eq_true, Bool.not_eq_true'] at h1
    exact value_ends B M b r s (nextV b true) w h hB hl h1.1 h1.2
end Go.Proofs.YtjhdgpboofcelaaGreat
