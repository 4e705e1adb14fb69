/- Laws that the walks of this seat share: worlds that have only grown, and what is read in them. No condition. -/
import Derived.Test.YtjhdgpboofcelaaDoorRows
import Derived.WalkKit
import Derived.WalkSpells
import Derived.WalkLawsBesides
import Derived.WalkSmall
import Derived.Deep.QuietTactic
import Derived.BigQuiet
import Derived.Lib.ConvBytes
import Derived.Lib.SmallJoins
import Derived.Lib.UnsafeStr
import Derived.Laws.EntriesVeiled
namespace Go.Proofs.YtjhdgpboofcelaaDoor
open Go.RowKit

/-- A world that has come of w: what was there is as it was. -/
structure Gr (w : World) where
  world : World
  below : Below w.heap.size w world

instance Gr.nonempty (w : World) : Nonempty (Gr w) := ⟨⟨w, Below.refl _ _⟩⟩
theorem Gr.of {w w' : World} (h : Below w.heap.size w w') : ∃ g : Gr w, w' = g.world := ⟨⟨w', h⟩, rfl⟩
theorem Gr.le {w : World} (g : Gr w) : w.heap.size ≤ g.world.heap.size := g.below.size
theorem Gr.lt {w : World} (g : Gr w) {k : Nat} (h : k < w.heap.size) : k < g.world.heap.size := Nat.lt_of_lt_of_le h g.le
@[simp, go_sem] theorem Gr.lt' {w : World} (g : Gr w) {k : Nat} (h : k < w.heap.size) : (k < g.world.heap.size) = True := eq_true (g.lt h)
@[simp, go_sem] theorem Gr.cell? {w : World} (g : Gr w) (p : Addr) (h : p.block < w.heap.size) : g.world.cell? p = w.cell? p := g.below.cell h
@[simp, go_sem] theorem Gr.frozen? {w : World} (g : Gr w) (p : Addr) (h : p.block < w.heap.size) : g.world.frozen? p = w.frozen? p := g.below.frozen h
theorem Gr.trans {w : World} (g : Gr w) {w' : World} (h : Below g.world.heap.size g.world w') : ∃ g' : Gr w, w' = g'.world :=
  ⟨⟨w', g.below.trans (h.mono g.le)⟩, rfl⟩
theorem Gr.into {w : World} (g : Gr w) {B : Nat} {v : World} (h : Below B v w) (hB : B ≤ w.heap.size) : Below B v g.world := h.trans (g.below.mono hB)

/-- A call met in a grown world leaves a grown world. -/
theorem Calls.gr {P : Program} {f : FuncId} {args : Array Value} {w : World} {g : Gr w} {v : Value}
    (h : Calls P f args g.world fun e w' => e = .returned v ∧ Below g.world.heap.size g.world w') :
    Calls P f args g.world fun e w' => e = .returned v ∧ ∃ g' : Gr w, w' = g'.world :=
  h.mono fun _ _ ⟨he, hb⟩ => ⟨he, g.trans hb⟩
theorem Calls.gr0 {P : Program} {f : FuncId} {args : Array Value} {w : World} {v : Value}
    (h : Calls P f args w fun e w' => e = .returned v ∧ Below w.heap.size w w') :
    Calls P f args w fun e w' => e = .returned v ∧ ∃ g' : Gr w, w' = g'.world :=
  h.mono fun _ _ ⟨he, hb⟩ => ⟨he, Gr.of hb⟩
theorem below_self {P : Program} {f : FuncId} {args : Array Value} {w : World} {v : Value}
    (h : Calls P f args w fun e w' => e = .returned v ∧ w = w') :
    Calls P f args w fun e w' => e = .returned v ∧ Below w.heap.size w w' :=
  h.mono fun _ _ ⟨he, hb⟩ => ⟨he, hb ▸ Below.refl _ _⟩

theorem below_self' {P : Program} {f : FuncId} {args : Array Value} {w : World} {v : Value}
    (h : Calls P f args w fun e w' => e = .returned v ∧ w' = w) :
    Calls P f args w fun e w' => e = .returned v ∧ Below w.heap.size w w' :=
  h.mono fun _ _ ⟨he, hb⟩ => ⟨he, hb ▸ Below.refl _ _⟩

/-- A region that draws its order, whose operations read and whose callees only make memory: one walk, in the text's order. -/
theorem wp_region_gr {P : Program} {id : Nat} {Q : Exit → Act → World → Prop} {a : Act} {w : World} {l : List Oper} (hm : P.follows .mixedOrders = true)
    (hB : Region.lexB .any l.toArray = true)
    (h : wpQuiet P l.toArray (fun w' => ∃ g : Gr w, w' = g.world) (fun a' => ∀ g : Gr w, Q .normal a' g.world) l a) : (Code.region id l.toArray true).wp P Q a w := by
  refine wp_region_quiet (C := fun w' => ∃ g : Gr w, w' = g.world) hm hB (Gr.of ((Below.refl _ w).drew)) ?_
  have e : (fun a' => ∀ w', (∃ g : Gr w, w' = g.world) → Q .normal a' w') = (fun a' => ∀ g : Gr w, Q .normal a' g.world) := by
    funext a'
    exact propext ⟨fun h g => h _ ⟨g, rfl⟩, fun h w' ⟨g, hg⟩ => hg ▸ h g⟩
  simpa [e] using h
theorem wp_region_gr' {P : Program} {id : Nat} {Q : Exit → Act → World → Prop} {a : Act} {w : World} {g0 : Gr w} {l : List Oper} (hm : P.follows .mixedOrders = true)
    (hB : Region.lexB .any l.toArray = true)
    (h : wpQuiet P l.toArray (fun w' => ∃ g : Gr w, w' = g.world) (fun a' => ∀ g : Gr w, Q .normal a' g.world) l a) : (Code.region id l.toArray true).wp P Q a g0.world := by
  refine wp_region_quiet (C := fun w' => ∃ g : Gr w, w' = g.world) hm hB (Gr.trans g0 ((Below.refl _ g0.world).drew)) ?_
  have e : (fun a' => ∀ w', (∃ g : Gr w, w' = g.world) → Q .normal a' w') = (fun a' => ∀ g : Gr w, Q .normal a' g.world) := by
    funext a'
    exact propext ⟨fun h g => h _ ⟨g, rfl⟩, fun h w' ⟨g, hg⟩ => hg ▸ h g⟩
  simpa [e] using h

/-- The first cells of a block: none of them frozen. -/
def RowAt (w : World) (b : Nat) (T : TypeId) (vs : List Value) : Prop :=
  ∃ (C : Array Value) (n m : Nat), w.heap[b]? = some (.cells C T (n, m)) ∧ (m = 0 ∨ vs.length ≤ n) ∧ C.toList.take vs.length = vs
theorem RowAt.lt {w : World} {b : Nat} {T : TypeId} {vs : List Value} (h : RowAt w b T vs) : b < w.heap.size := by
  obtain ⟨C, n, m, h1, _⟩ := h
  exact (Array.getElem?_eq_some_iff.1 h1).1
theorem RowAt.cell {w : World} {b : Nat} {T : TypeId} {vs : List Value} (h : RowAt w b T vs) (i : Nat) (hi : i < vs.length) : w.cell? ⟨b, i, none⟩ = some vs[i] := by
  obtain ⟨C, n, m, h1, _, h3⟩ := h
  have h4 : (C.toList.take vs.length)[i]? = some vs[i] := by rw [h3]; simp
  rw [List.getElem?_take] at h4
  simp only [hi, if_true] at h4
  simp only [World.cell?, h1]
  simpa using h4
theorem RowAt.frozen {w : World} {b : Nat} {T : TypeId} {vs : List Value} (h : RowAt w b T vs) (i : Nat) (hi : i < vs.length) : w.frozen? ⟨b, i, none⟩ = false := by
  obtain ⟨C, n, m, h1, h2, _⟩ := h
  simp only [World.frozen?, h1]
  rcases h2 with rfl | h2
  · simp
  · simp; omega
theorem RowAt.same {w w' : World} {b : Nat} {T : TypeId} {vs : List Value} (h : RowAt w b T vs) (he : w'.heap[b]? = w.heap[b]?) : RowAt w' b T vs := by
  obtain ⟨C, n, m, h1, h2, h3⟩ := h
  exact ⟨C, n, m, by rw [he]; exact h1, h2, h3⟩
theorem RowAt.below {w w' : World} {b B : Nat} {T : TypeId} {vs : List Value} (h : RowAt w b T vs) (hb : Below B w w') (hB : b < B) : RowAt w' b T vs := h.same (hb.block b hB)
theorem RowAt.gr {w : World} {b : Nat} {T : TypeId} {vs : List Value} (h : RowAt w b T vs) (g : Gr w) : RowAt g.world b T vs := h.below g.below h.lt
theorem RowAt.alloc {w : World} {b : Nat} {T : TypeId} {vs : List Value} (h : RowAt w b T vs) (o : Obj) : RowAt (w.alloc o) b T vs := h.same (Below.heap_alloc w o b h.lt)
theorem RowAt.setOther {w : World} {b : Nat} {T : TypeId} {vs : List Value} (h : RowAt w b T vs) (p : Addr) (v : Value) (hp : b ≠ p.block) : RowAt (w.setCell p v) b T vs := h.same (Below.heap_setCell w p v b hp)
theorem RowAt.set {w : World} {b : Nat} {T : TypeId} {vs : List Value} (h : RowAt w b T vs) (i : Nat) (v : Value) : RowAt (w.setCell ⟨b, i, none⟩ v) b T (vs.set i v) := by
  obtain ⟨C, n, m, h1, h2, h3⟩ := h
  have h5 : (w.setCell ⟨b, i, none⟩ v).heap[b]? = some (.cells (C.setIfInBounds i v) T (n, m)) := by
    simp only [World.setCell, Array.getElem?_modify, if_true, h1]
    rfl
  refine ⟨C.setIfInBounds i v, n, m, h5, by simpa using h2, ?_⟩
  rw [Array.toList_setIfInBounds, List.length_set, List.take_set, h3]
theorem RowAt.take {w : World} {b : Nat} {T : TypeId} {vs : List Value} (h : RowAt w b T vs) (k : Nat) : RowAt w b T (vs.take k) := by
  obtain ⟨C, n, m, h1, h2, h3⟩ := h
  refine ⟨C, n, m, h1, h2.imp id (fun h => by simp; omega), ?_⟩
  have : C.toList.take (vs.take k).length = (C.toList.take vs.length).take k := by
    rw [List.take_take, List.length_take]
  rw [this, h3]
theorem RowAt.of_new (w : World) (C : Array Value) (T : TypeId) : RowAt (w.alloc (.cells C T)) w.heap.size T C.toList :=
  ⟨C, 0, 0, by show (w.heap.push _)[w.heap.size]? = _; simp, .inl rfl, List.take_of_length_le (by simp)⟩
theorem RowAt.of_heap {w : World} {b : Nat} {C : Array Value} {T : TypeId} (h : w.heap[b]? = some (.cells C T (0, 0))) : RowAt w b T C.toList :=
  ⟨C, 0, 0, h, .inl rfl, List.take_of_length_le (by simp)⟩
theorem RowAt.bytes (w : World) (T : TypeId) (s : ByteArray) : RowAt (Lib.bytesWorld w T s) w.heap.size T (Lib.byteCells s.data.toList) := by
  refine ⟨_, _, _, Lib.bytesWorld_at_new w T s, .inr ?_, ?_⟩
  · simp [Lib.bytesCells, Lib.byteCells]
  · simp [Lib.bytesCells, Lib.byteCells]
theorem RowAt.one {w : World} {b : Nat} {T : TypeId} {u : Value} (h : RowAt w b T [u]) : w.cell? ⟨b, 0, none⟩ = some u ∧ w.frozen? ⟨b, 0, none⟩ = false ∧ b < w.heap.size :=
  ⟨h.cell 0 (by simp), h.frozen 0 (by simp), h.lt⟩
theorem RowAt.two {w : World} {b : Nat} {T : TypeId} {u v : Value} (h : RowAt w b T [u, v]) : w.cell? ⟨b, 0, none⟩ = some u ∧ w.cell? ⟨b, 1, none⟩ = some v ∧ w.frozen? ⟨b, 0, none⟩ = false ∧ w.frozen? ⟨b, 1, none⟩ = false ∧ b < w.heap.size :=
  ⟨h.cell 0 (by simp), h.cell 1 (by simp), h.frozen 0 (by simp), h.frozen 1 (by simp), h.lt⟩
theorem RowAt.three {w : World} {b : Nat} {T : TypeId} {u v x : Value} (h : RowAt w b T [u, v, x]) : w.cell? ⟨b, 0, none⟩ = some u ∧ w.cell? ⟨b, 1, none⟩ = some v ∧ w.cell? ⟨b, 2, none⟩ = some x ∧ w.frozen? ⟨b, 0, none⟩ = false ∧ w.frozen? ⟨b, 1, none⟩ = false ∧ w.frozen? ⟨b, 2, none⟩ = false ∧ b < w.heap.size :=
  ⟨h.cell 0 (by simp), h.cell 1 (by simp), h.cell 2 (by simp), h.frozen 0 (by simp), h.frozen 1 (by simp), h.frozen 2 (by simp), h.lt⟩
theorem RowAt.drew {w : World} {b : Nat} {T : TypeId} {vs : List Value} (h : RowAt w b T vs) : RowAt w.drew b T vs := h.same rfl
theorem RowAt.new_at (w : World) (C : Array Value) (T : TypeId) (k : Nat) (hk : k = w.heap.size) : RowAt (w.alloc (.cells C T)) k T C.toList := by
  subst hk; exact RowAt.of_new w C T
/-- The world under a name of its own. -/
theorem Calls.named {P : Program} {f : FuncId} {args : Array Value} {w : World} {R : Ending → World → Prop} (h : ∀ W, W = w → Calls P f args W R) : Calls P f args w R := h w rfl
theorem wp_named {P : Program} {c : Code} {Q : Exit → Act → World → Prop} {a : Act} {w : World} (h : ∀ W, W = w → c.wp P Q a W) : c.wp P Q a w := h w rfl
theorem RowAt.byte {w : World} {b : Nat} {T : TypeId} {l : List UInt8} (h : RowAt w b T (Lib.byteCells l)) (i : Nat) (hi : i < l.length) : w.cell? ⟨b, i, none⟩ = some (.int .u8 ((l.getD i 0).toNat : Nat)) := by
  have := h.cell i (by simpa [Lib.byteCells] using hi)
  rw [this]
  simp [Lib.byteCells, List.getD, hi]
theorem byteCells_set (l : List UInt8) (i : Nat) (x : UInt8) : Lib.byteCells (l.set i x) = (Lib.byteCells l).set i (.int .u8 (x.toNat : Nat)) := by
  simp [Lib.byteCells, List.map_set]
theorem RowAt.loadCells {P : Program} {w : World} {b : Nat} {T : TypeId} {vs : List Value} (h : RowAt w b T vs) : (loadCells ⟨b, 0, none⟩ vs.length).run P w = .ok vs.toArray w := by
  refine run_loadCells_list w ⟨b, 0, none⟩ vs fun j v hj => ?_
  obtain ⟨hlt, rfl⟩ := List.getElem?_eq_some_iff.1 hj
  have e : (⟨b, 0, none⟩ : Addr).add j = ⟨b, j, none⟩ := by by_cases h0 : j = 0 <;> simp [Addr.add, h0]
  rw [e]
  exact h.cell j hlt
/-- string(b). -/
theorem RowAt.string {P : Program} {w : World} {b cap : Nat} {T src dst : TypeId} {l : List UInt8} (h : RowAt w b T (Lib.byteCells l)) {e : TypeId}
    (hs : P.underlying src = some (.slice e)) (he : P.underlying e = some (.int .u8)) (hd : P.underlying dst = some .string) :
    Sem.run P (convert src dst (.slice (some ⟨b, 0, none⟩) l.length cap)) w = .ok (.string ⟨l.toArray⟩) w := by
  rw [run_convert_bytes_string w src dst e _ _ _ hs he hd]
  have h1 := h.loadCells (P := P)
  have e1 : Lib.byteCells l = (l.map fun b => (b.toNat : Int)).map (Value.int .u8) := by simp [Lib.byteCells]
  have e2 : (Lib.byteCells l).length = l.length := by simp [Lib.byteCells]
  rw [e2, e1] at h1
  rw [run_bytesToString w _ _ _ _ h1]
  have e3 : ∀ (l : List UInt8) (r : ByteArray), (l.map fun b => (b.toNat : Int)).foldl (fun r n => r.push (UInt8.ofNat n.toNat)) r = ⟨r.data ++ l.toArray⟩ := by
    intro l
    induction l with
    | nil => intro r; simp
    | cons x l ih => intro r; simp only [List.map_cons, List.foldl_cons, ih]; simp [ByteArray.push]
  rw [e3]
  simp
theorem index_at {P : Program} (t : TypeId) (s : ByteArray) (k : IntKind) (i : Int) (n : Nat) (h : P.underlying t = some .string) (hi : i = (n : Int)) (hn : n < s.size) (w : World) :
    Sem.run P (Instr.index t (.string s) (.int k i)) w = .ok (.int .u8 (s[n].toNat : Nat)) w := by
  subst hi
  rw [run_index_string w t s k _ h, dif_pos ⟨by omega, by omega⟩]
  simp
end Go.Proofs.YtjhdgpboofcelaaDoor
