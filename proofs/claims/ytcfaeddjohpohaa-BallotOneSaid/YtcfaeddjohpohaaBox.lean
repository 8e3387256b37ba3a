/-
  Boxes of the call's own: what lies in them. Conditions: none.
-/
import Derived.Test.YtcfaeddjohpohaaObj
namespace Ros
open Go Go.RowKit
theorem boxes1 {w w1 : World} {o1 : Obj} (hb : Below (w.alloc o1).heap.size (w.alloc o1) w1) : w1.heap[w.heap.size]? = some o1 :=
  obj_below (World.alloc_heap_new w o1) hb (by simp)
theorem boxes2 {w w1 : World} {o1 o2 : Obj} (hb : Below ((w.alloc o1).alloc o2).heap.size ((w.alloc o1).alloc o2) w1) : w1.heap[w.heap.size]? = some o1 ∧ w1.heap[w.heap.size + 1]? = some o2 :=
  ⟨obj_below (obj_alloc (World.alloc_heap_new w o1) o2) hb (by simp; omega), obj_below (new2 w o1 o2) hb (by simp)⟩
theorem cells1 {w : World} {g : Nat} {a : Value} {t : TypeId} (h : w.heap[g]? = some (.cells #[a] t (0, 0))) :
    w.cell? ⟨g, 0, none⟩ = some a ∧ w.frozen? ⟨g, 0, none⟩ = false ∧ g < w.heap.size := ⟨cell_row h 0, obj_frozen h 0, obj_lt h⟩
theorem cells3 {w : World} {g : Nat} {a b c : Value} {t : TypeId} (h : w.heap[g]? = some (.cells #[a, b, c] t (0, 0))) :
    w.cell? ⟨g, 0, none⟩ = some a ∧ w.cell? ⟨g, 1, none⟩ = some b ∧ w.cell? ⟨g, 2, none⟩ = some c ∧ w.frozen? ⟨g, 0, none⟩ = false ∧ w.frozen? ⟨g, 1, none⟩ = false ∧ w.frozen? ⟨g, 2, none⟩ = false ∧ g < w.heap.size :=
  ⟨cell_row h 0, cell_row h 1, cell_row h 2, obj_frozen h 0, obj_frozen h 1, obj_frozen h 2, obj_lt h⟩
theorem below1 {w w1 : World} {o1 : Obj} (hb : Below (w.alloc o1).heap.size (w.alloc o1) w1) : Below w.heap.size w w1 := ((Below.refl _ w).alloc (Nat.le_refl _) o1).trans (hb.mono (by simp))
theorem below2 {w w1 : World} {o1 o2 : Obj} (hb : Below ((w.alloc o1).alloc o2).heap.size ((w.alloc o1).alloc o2) w1) : Below w.heap.size w w1 := (((Below.refl _ w).alloc (Nat.le_refl _) o1).alloc (by simp) o2).trans (hb.mono (by simp; omega))
end Ros
