/- Package label: the reader reads a text. -/
import Derived.Test.YtjhdgpboofcelaaGreatD6
import Derived.Test.YtjhdgpboofcelaaGreatB2
namespace Go.Proofs.YtjhdgpboofcelaaGreat
open Go.RowKit
open Go.Lib (decodeL validD)

def rd0 : Rd := { name := ⟨#[]⟩, value := ⟨#[]⟩, all := [], inVal := false, esc := false }
def rdFold (r : Rd) (l : List (List UInt8)) : Rd := l.foldl (fun r c => r.step ⟨c.toArray⟩) r
/-- The labels of a text, as they stand in it. -/
def readB (l : List UInt8) : Option (List BLab) :=
  if validD l then
    let r := rdFold rd0 (runes l)
    if r.inVal && !r.esc then some (r.all ++ [(r.name, r.value)]) else none
  else none
/-- How much a reader holds. -/
def RdLe (r : Rd) (n : Nat) : Prop := r.name.size ≤ n ∧ r.value.size ≤ n ∧ r.all.length ≤ n ∧ ∀ x ∈ r.all, x.1.size ≤ n ∧ x.2.size ≤ n
theorem RdLe.step {r : Rd} {n : Nat} (h : RdLe r n) (c : List UInt8) (hc : 1 ≤ c.length) : RdLe (r.step ⟨c.toArray⟩) (n + c.length) := by
  obtain ⟨h1, h2, h3, h4⟩ := h
  have hs : (⟨c.toArray⟩ : ByteArray).size = c.length := by show c.toArray.size = _; simp
  have h4' : ∀ x ∈ r.all, x.1.size ≤ n + c.length ∧ x.2.size ≤ n + c.length := fun x hx => by have := h4 x hx; omega
  unfold Rd.step
  split
  · split
    · refine ⟨Nat.zero_le _, Nat.zero_le _, by simp; omega, fun x hx => ?_⟩
      rcases List.mem_append.1 hx with hx | hx
      · exact h4' x hx
      · simp at hx; subst hx; exact ⟨by simp; omega, by simp; omega⟩
    · split
      · exact ⟨by simp; omega, by simp; omega, by simp; omega, h4'⟩
      · exact ⟨by simp; omega, by simp [ByteArray.size_append, hs]; omega, by simp; omega, h4'⟩
  · split
    · exact ⟨by simp; omega, by simp; omega, by simp; omega, h4'⟩
    · exact ⟨by simp [ByteArray.size_append, hs]; omega, by simp; omega, by simp; omega, h4'⟩
theorem enc_at (s : ByteArray) (pos : Nat) (hp : pos < s.size) (r k : Nat) (hd : Utf8.decode s pos = (r, k)) (hv : ¬ (r = 65533 ∧ k = 1)) : Utf8.encode (r : Int) = ⟨((s.data.toList.drop pos).take k).toArray⟩ := by
  have h := encode_rune _ (drop_ne s pos hp)
  rw [Lib.decodeL_drop, hd] at h
  exact h hv
theorem RdAt.iterAt {M : Nat} {w : World} {b : Nat} {r : Rd} {nv : Value} (h : RdAt M w b r nv) (k : Nat) (hk : k < M) (hb : b ≠ k) (s : ByteArray) (p : Nat) : RdAt M (w.iterAt k s p) b r nv := by
  obtain ⟨h1, h2, v, h3, h4⟩ := h
  exact ⟨h1, by rw [Lib.iterAt_size]; exact h2, v, h3.same (Lib.iterAt_other _ _ _ _ _ hb), ownsRow_iterAt h4 hk s p⟩

/-- What reading tells. -/
def ReadP (b : Nat) (o : Option (List BLab)) (e : Ending) (w' : World) : Prop :=
  (o = none ∧ e = .returned (.iface 53 (.agg #[]))) ∨ (∃ L, o = some L ∧ e = .returned .nilIface ∧ ∃ M r nv, RdAt M w' b r nv ∧ r.all = L)
set_option maxRecDepth 100000 in
set_option maxHeartbeats 1000000 in
theorem read_right (b : Nat) (s : ByteArray) (w : World) (h : RowAt w b 45 (rdCells b rd0 (.slice none 0 0) .nilFunc)) (hs : s.size ≤ 1000000) (hV : validD s.data.toList = true) :
    Calls Tryz.prog 26 #[.pointer (some ⟨b, 0, none⟩), .string s] w fun e w' => Below b w w' ∧ ReadP b (readB s.data.toList) e w' := by
  have hmf : ∀ (fn : Fn) (first cap : Array Value) (w : World), (Instr.makeFunc fn first cap).run Tryz.prog w = .ok (.func fn first cap) w := fun _ _ _ _ => rfl
  have hRu := runes_any s w (by omega)
  rw [hV, if_pos rfl] at hRu
  have c3 := h.cell 3 (by simp [rdCells])
  have f3 := h.frozen 3 (by simp [rdCells])
  have hbl := h.lt
  simp only [rdCells, List.getElem_cons_zero, List.getElem_cons_succ] at c3
  unfold readB
  rw [if_pos hV]
  simp only []
  have hF : rdFold rd0 (runes (s.data.toList.drop 0)) = rdFold rd0 (runes s.data.toList) := by simp
  have hV0 : validD (s.data.toList.drop 0) = true := by simpa using hV
  generalize rdFold rd0 (runes s.data.toList) = R at *
  have HF := Lib.hid hF
  have HV := Lib.hid hV0
  clear hF hV0 hV
  go_enter Tryz.func26, Tryz.ntmps26
  go_wp2_with fail
  with_reducible refine Calls.mono (Calls.gr0 (hRu)) ?_
  rintro e w' ⟨rfl, g, rfl⟩
  have hgl := g.le
  try simp only [World.size_alloc] at hgl
  try simp only [World.size_setCell] at hgl
  go_wp2_with fail
  refine wp_named (fun W hW => ?_)
  have hX : RdAt (g.world.heap.size + 1) W b rd0 (nextV b false) := by
    rw [hW]
    refine ⟨by omega, ?_, .slice none 0 0, ?_, World.ownsRow_nil _ _ _ _⟩
    · show _ ≤ ((g.world.setCell ⟨b, 3, none⟩ (nextV b false)).alloc (.stringIter s 0)).heap.size
      simp
    · exact RowAt.alloc ((h.gr g).set 3 (nextV b false)) (.stringIter s 0)
  have hit : W.heap[g.world.heap.size]? = some (.stringIter s 0) := by
    rw [hW]
    have := World.iter_heap (g.world.setCell ⟨b, 3, none⟩ (.func (.func 49) #[.pointer (some ⟨b, 0, none⟩)] #[])) s 0
    simpa using this
  have hBW : Below b w W := by
    rw [hW]
    exact ((g.below.mono (Nat.le_of_lt hbl)).setCell (Nat.le_refl _) _).alloc (by simp; omega) _
  generalize g.world.heap.size = it at *
  clear hW g c3 f3 hRu
  go_loopw [] (fun wr => ∃ (pos : Nat) (cur : Rd), wr.heap[it]? = some (.stringIter s pos) ∧ RdAt (it + 1) wr b cur (nextV b cur.inVal) ∧ rdFold cur (runes (s.data.toList.drop pos)) = R ∧ validD (s.data.toList.drop pos) = true ∧ RdLe cur pos ∧ pos ≤ s.size ∧ Below b w wr)
    (fun wr => s.size - wr.iterPos it)
  case atStart => exact ⟨0, rd0, hit, hX, HF.out, HV.out, ⟨Nat.le_refl _, Nat.le_refl _, Nat.le_refl _, fun _ h => by cases h⟩, by omega, hBW⟩
  case round =>
    obtain ⟨pos, cur, hit, hR, hf, hv, hle, hps, hB⟩ := hrel
    have hBs := hB.size
    by_cases hp : pos < s.size
    · obtain ⟨r, k, hd, hk1, hk2, -, e1, e2, -⟩ := rune_at s pos hp
      rw [e1] at hf
      rw [e2] at hv
      have hbad : ¬ (r = 65533 ∧ k = 1) := by
        intro hb
        rw [if_pos hb] at hv
        cases hv
      rw [if_neg hbad] at hv
      have hen := enc_at s pos hp r k hd hbad
      have hnx : ∀ ty, (Instr.next (.pointer (some ⟨it, 0, none⟩)) true ty).run Tryz.prog wr = _ := fun ty => Lib.run_next_any_at wr it s pos ty hit hp
      rw [hd] at hnx
      simp only at hnx
      have hcv : ∀ w : World, (convert 21 9 (.int .i32 (r : Int))).run Tryz.prog w = .ok (.string ⟨((s.data.toList.drop pos).take k).toArray⟩) w := fun w => by
        rw [run_convert_int_string w _ _ _ _ (by kernel_rfl) Tryz.underlying9, hen]
      have hcl : ((s.data.toList.drop pos).take k).length = k := by rw [List.length_take, List.length_drop, data_length]; omega
      have hstep : rdFold cur ((s.data.toList.drop pos).take k :: runes (s.data.toList.drop (pos + k))) = rdFold (cur.step ⟨((s.data.toList.drop pos).take k).toArray⟩) (runes (s.data.toList.drop (pos + k))) := rfl
      rw [hstep] at hf
      have hle2 := hle.step ((s.data.toList.drop pos).take k) (by omega)
      rw [hcl] at hle2
      have hcs : (⟨((s.data.toList.drop pos).take k).toArray⟩ : ByteArray).size = k := by show ((s.data.toList.drop pos).take k).toArray.size = _; simpa using hcl
      generalize (⟨((s.data.toList.drop pos).take k).toArray⟩ : ByteArray) = c at *
      have hit2 := Lib.iterAt_heap wr it s pos (pos + k) hit
      have hM := hR.1
      have hbne : b ≠ it := by
        intro hbi
        obtain ⟨-, -, v, h3, -⟩ := hR
        obtain ⟨C, n, m, h4, -⟩ := h3
        rw [hbi] at h4
        rw [hit] at h4
        cases h4
      have hR2 := hR.iterAt it (by omega) hbne s (pos + k)
      have hB2 : Below b w (wr.iterAt it s (pos + k)) := Lib.below_iterAt hB (by omega) s (pos + k)
      obtain ⟨q1, q3, q4, q5, g1, g3, g4, gl⟩ := hR2.cells
      obtain ⟨l1, l2, l3, l4⟩ := id hle
      have HFF := Lib.hid hf
      have HVV := Lib.hid hv
      have HC := Lib.hid hcs
      clear hf hv hen hd e1 e2 hcl hstep h hX
      cases hcv2 : cur.inVal
      · rw [hcv2] at hR2 q3
        have hN := name_any b (it + 1) b cur c _ hR2 hcv2 (Nat.le_refl _) (by rw [HC.out]; omega)
        simp only [nextV, Bool.false_eq_true, if_false] at q3
        generalize wr.iterAt it s (pos + k) = X at *
        clear hcs
        go_wp2_with (go_at_call 49; refine hN.mono ?_; rintro e w2 ⟨rfl, hR3, hS⟩)
        have hit3 := (hS.2 it (by omega) (Ne.symm hbne) (Array.getElem?_eq_some_iff.1 hit2).1).trans hit2
        go_roundw
        case rel => exact ⟨pos + k, _, hit3, hR3, HFF.out, HVV.out, hle2, by omega, hB2.trans hS.1⟩
        case measure => rw [iterPos_of hit3, iterPos_of hit]; omega
      · rw [hcv2] at hR2 q3
        have hN := value_any b (it + 1) b cur c _ hR2 hcv2 (Nat.le_refl _) (by rw [HC.out]; omega) (by omega)
        simp only [nextV, if_true] at q3
        generalize wr.iterAt it s (pos + k) = X at *
        clear hcs
        go_wp2_with (go_at_call 61; refine hN.mono ?_; rintro e w2 ⟨rfl, hR3, hS⟩)
        have hit3 := (hS.2 it (by omega) (Ne.symm hbne) (Array.getElem?_eq_some_iff.1 hit2).1).trans hit2
        go_roundw
        case rel => exact ⟨pos + k, _, hit3, hR3, HFF.out, HVV.out, hle2, by omega, hB2.trans hS.1⟩
        case measure => rw [iterPos_of hit3, iterPos_of hit]; omega
    · have h0 : s.data.toList.drop pos = [] := List.drop_eq_nil_of_le (by rw [data_length]; omega)
      rw [h0] at hf
      have e0 : cur = R := hf
      subst e0
      have hnx : ∀ ty, (Instr.next (.pointer (some ⟨it, 0, none⟩)) true ty).run Tryz.prog wr = _ := fun ty => Lib.run_next_end_at wr it s pos ty hit hp
      obtain ⟨q1, q3, q4, q5, g1, g3, g4, gl⟩ := hR.cells
      have hal : cur.all.length ≤ 1000000 := by have := hle.2.2.1; omega
      clear hf hv HF HV h hX h0 hps hp hit hBs
      cases hi : cur.inVal
      · rw [hi] at q5
        go_wp2
        all_goals
          go_ret
          exact ⟨hB, Or.inl ⟨by simp [hi], rfl⟩⟩
      · cases he : cur.esc
        · rw [hi] at q5
          rw [he] at q4
          have hE := ends_any b (it + 1) b cur _ wr hR (Nat.le_refl _) hal
          go_wp2_with (go_at_call 50; refine hE.mono ?_; rintro e w2 ⟨rfl, hR3, hS⟩)
          all_goals
            go_ret
            exact ⟨hB.trans hS.1, Or.inr ⟨_, by simp [hi, he], rfl, _, _, _, hR3, rfl⟩⟩
        · rw [hi] at q5
          rw [he] at q4
          go_wp2
          all_goals
            go_ret
            exact ⟨hB, Or.inl ⟨by simp [hi, he], rfl⟩⟩

theorem read_any (b : Nat) (s : ByteArray) (w : World) (h : RowAt w b 45 (rdCells b rd0 (.slice none 0 0) .nilFunc)) (hs : s.size ≤ 1000000) :
    Calls Tryz.prog 26 #[.pointer (some ⟨b, 0, none⟩), .string s] w fun e w' => Below b w w' ∧ ReadP b (readB s.data.toList) e w' := by
  cases hV : validD s.data.toList
  · have hRu := runes_any s w (by omega)
    rw [hV] at hRu
    have hbl := h.lt
    have hR : readB s.data.toList = none := by unfold readB; rw [hV]; rfl
    rw [hR]
    clear hV hR
    go_enter Tryz.func26, Tryz.ntmps26
    go_wp2_with fail
    with_reducible refine Calls.mono (Calls.gr0 (hRu)) ?_
    rintro e w' ⟨rfl, g, rfl⟩
    have hgl := g.le
    try simp only [World.size_alloc] at hgl
    try simp only [World.size_setCell] at hgl
    go_wp2_with fail
    go_ret
    exact ⟨g.below.mono (by omega), Or.inl ⟨rfl, rfl⟩⟩
  · exact read_right b s w h hs hV
end Go.Proofs.YtjhdgpboofcelaaGreat
