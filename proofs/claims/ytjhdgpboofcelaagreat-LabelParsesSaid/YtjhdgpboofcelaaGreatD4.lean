/- Package label: the reader's steps. -/
import Derived.Test.YtjhdgpboofcelaaGreatD3
import Derived.WideMake
namespace Go.Proofs.YtjhdgpboofcelaaGreat
open Go.RowKit

/-- A reader. -/
structure Rd where
  name : ByteArray
  value : ByteArray
  all : List BLab
  inVal : Bool
  esc : Bool
def nextV (b : Nat) (inVal : Bool) : Value := if inVal then .func (.func 61) #[.pointer (some ⟨b, 0, none⟩)] #[] else .func (.func 49) #[.pointer (some ⟨b, 0, none⟩)] #[]
theorem set_last (w : World) (o o' : Obj) : ({ (w.alloc o) with heap := (w.alloc o).heap.setIfInBounds w.heap.size o' } : World) = w.alloc o' := by
  have e : (w.heap.push o).setIfInBounds w.heap.size o' = w.heap.push o' := by
    apply Array.ext'
    rw [Array.toList_setIfInBounds, Array.toList_push, Array.toList_push]
    have h : w.heap.size = w.heap.toList.length := by simp
    rw [h, List.set_append_right _ _ (Nat.le_refl _)]
    simp
  show ({ (w.alloc o) with heap := (w.heap.push o).setIfInBounds w.heap.size o' } : World) = _
  rw [e]
  rfl
theorem key_ok (s : ByteArray) (w : World) (b : Bool) : (Instr.checkKey b 10000 9 (.string s)).run Tryz.prog w = .ok () w := MapKept.run_checkKey (k := .string s) Tryz.underlying9 (by simp [MapKept.IsKey]) b 9999
theorem map_one (w : World) (f : Value) : Sem.run Tryz.prog (Instr.mapUpdate 107 (.map (some w.heap.size)) (.string ⟨#[44]⟩) f) (w.alloc (.map #[] 0)) = .ok () (w.alloc (.map #[⟨.string ⟨#[44]⟩, f, 0⟩] 1)) := by
  have h := run_mapUpdate_first (P := Tryz.prog) (w.alloc (.map #[] 0)) 107 9 1 w.heap.size 0 ⟨#[44]⟩ f Tryz.underlying107 Tryz.underlying9 (World.alloc_heap_new w _)
  rw [h]
  exact congrArg _ (set_last w _ _)
theorem map_two (w : World) (f g : Value) : Sem.run Tryz.prog (Instr.mapUpdate 107 (.map (some w.heap.size)) (.string ⟨#[92]⟩) g) (w.alloc (.map #[⟨.string ⟨#[44]⟩, f, 0⟩] 1)) = .ok () (w.alloc (.map #[⟨.string ⟨#[44]⟩, f, 0⟩, ⟨.string ⟨#[92]⟩, g, 1⟩] 2)) := by
  have hb := World.alloc_heap_new w (.map #[⟨.string ⟨#[44]⟩, f, 0⟩] 1)
  have hf : Instr.findNow .string (.string ⟨#[92]⟩) [⟨.string ⟨#[44]⟩, f, 0⟩] 0 = some none := rfl
  have hm := run_underlying (P := Tryz.prog) Tryz.underlying107
  simp only [Instr.mapUpdate, Sem.run_bind, hm, Result.andThen, MapKept.run_getObj_map hb, key_ok, MapKept.run_findKey Tryz.underlying9 hf, MapKept.run_setObj_map _ hb]
  exact congrArg _ (set_last w _ _)
def keyIs (s : ByteArray) (b : UInt8) : Bool := s == ⟨#[b]⟩
theorem map_look (w : World) (f g : Value) (s : ByteArray) : Sem.run Tryz.prog (Instr.lookup 107 (.map (some w.heap.size)) (.string s) true) (w.alloc (.map #[⟨.string ⟨#[44]⟩, f, 0⟩, ⟨.string ⟨#[92]⟩, g, 1⟩] 2)) =
    .ok (if keyIs s 44 then .tuple #[f, .bool true] else if keyIs s 92 then .tuple #[g, .bool true] else .tuple #[.nilFunc, .bool false]) (w.alloc (.map #[⟨.string ⟨#[44]⟩, f, 0⟩, ⟨.string ⟨#[92]⟩, g, 1⟩] 2)) := by
  have hb := World.alloc_heap_new w (.map #[⟨.string ⟨#[44]⟩, f, 0⟩, ⟨.string ⟨#[92]⟩, g, 1⟩] 2)
  have hm := run_underlying (P := Tryz.prog) Tryz.underlying107
  unfold keyIs
  cases h1 : (s == (⟨#[44]⟩ : ByteArray))
  · cases h2 : (s == (⟨#[92]⟩ : ByteArray))
    · have hf : Instr.findNow .string (.string s) [⟨.string ⟨#[44]⟩, f, 0⟩, ⟨.string ⟨#[92]⟩, g, 1⟩] 0 = some none := by simp only [Instr.findNow, Instr.sameNow, h1, h2]
      simp only [Instr.lookup, Sem.run_bind, hm, Result.andThen, MapKept.run_getObj_map hb, key_ok]
      simp
      rw [MapKept.run_findKey Tryz.underlying9 hf]
      simp [Tryz.zeroValue1]
    · have hf : Instr.findNow .string (.string s) [⟨.string ⟨#[44]⟩, f, 0⟩, ⟨.string ⟨#[92]⟩, g, 1⟩] 0 = some (some (1, g)) := by simp only [Instr.findNow, Instr.sameNow, h1, h2]
      simp only [Instr.lookup, Sem.run_bind, hm, Result.andThen, MapKept.run_getObj_map hb, key_ok]
      simp
      rw [MapKept.run_findKey Tryz.underlying9 hf]
      simp [Tryz.zeroValue1]
  · have hf : Instr.findNow .string (.string s) [⟨.string ⟨#[44]⟩, f, 0⟩, ⟨.string ⟨#[92]⟩, g, 1⟩] 0 = some (some (0, f)) := by simp only [Instr.findNow, Instr.sameNow, h1]
    simp only [Instr.lookup, Sem.run_bind, hm, Result.andThen, MapKept.run_getObj_map hb, key_ok]
    simp
    rw [MapKept.run_findKey Tryz.underlying9 hf]
    simp
end Go.Proofs.YtjhdgpboofcelaaGreat
