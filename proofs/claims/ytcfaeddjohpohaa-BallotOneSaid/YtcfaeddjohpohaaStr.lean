/-
  Strings as lists of bytes: 'bl s' are a string's bytes, 'str l' is the string of a list. Conditions: none.
-/
import Derived.WalkKit
import Derived.RangeFuncRecord
import Derived.Lib.Strings
namespace Ros
open Go Go.RowKit
/-- A string's bytes. -/
def bl (s : ByteArray) : List UInt8 := s.data.toList
/-- The string of some bytes. -/
def str (l : List UInt8) : ByteArray := ⟨l.toArray⟩
theorem bl_str (l : List UInt8) : bl (str l) = l := rfl
theorem str_bl (s : ByteArray) : str (bl s) = s := by cases s; simp [str, bl]
theorem bl_inj {s t : ByteArray} (h : bl s = bl t) : s = t := by rw [← str_bl s, ← str_bl t, h]
theorem str_inj {l m : List UInt8} (h : str l = str m) : l = m := by rw [← bl_str l, ← bl_str m, h]
theorem str_of {s : ByteArray} {l : List UInt8} (h : bl s = l) : s = str l := by rw [← h, str_bl]
theorem size_bl (s : ByteArray) : s.size = (bl s).length := by cases s; rfl
@[go_sem] theorem size_str (l : List UInt8) : (str l).size = l.length := rfl
theorem toList_bl (s : ByteArray) : s.toList = bl s := ByteArray.toList_eq s
theorem bl_append (a b : ByteArray) : bl (a ++ b) = bl a ++ bl b := by simp [bl, ByteArray.data_append]
theorem bl_extract (s : ByteArray) (a b : Nat) : bl (s.extract a b) = (bl s |>.take b).drop a := by
  simp [bl, ByteArray.data_extract, Array.toList_extract]
  rw [List.drop_take]
theorem bl_extract0 (s : ByteArray) (b : Nat) : bl (s.extract 0 b) = (bl s).take b := by simp [bl_extract]
theorem bl_get (s : ByteArray) (i : Nat) (h : i < s.size) : s[i] = (bl s)[i]'(by rw [← size_bl]; exact h) := rfl
theorem bl_getD (s : ByteArray) (i : Nat) (h : i < s.size) : s[i] = (bl s).getD i 0 := by
  rw [bl_get s i h, List.getD_eq_getElem?_getD, List.getElem?_eq_getElem (by rw [← size_bl]; exact h)]; rfl
theorem ret_str {s t : ByteArray} (h : bl s = bl t) : Ending.returned (.string s) = .returned (.string t) := by rw [bl_inj h]
theorem ret_int {k : IntKind} {a b : Int} (h : a = b) : Ending.returned (.int k a) = .returned (.int k b) := by rw [h]
theorem beq_bl (s t : ByteArray) : (s.toList == t.toList) = decide (s = t) := by
  rw [toList_bl, toList_bl, Bool.eq_iff_iff]
  simp only [beq_iff_eq, decide_eq_true_eq]
  exact ⟨bl_inj, fun h => by rw [h]⟩
theorem beq_str (l m : List UInt8) : ((str l).toList == (str m).toList) = decide (l = m) := by
  rw [toList_bl, toList_bl, bl_str, bl_str, Bool.eq_iff_iff]
  simp
/-- Old cells, old marks behind 'Below'. -/
theorem bcell {W w1 : World} {B : Nat} (hb : Below B W w1) : (∀ b o, b < B → w1.cell? ⟨b, o, none⟩ = W.cell? ⟨b, o, none⟩) ∧ (∀ b o, b < B → w1.frozen? ⟨b, o, none⟩ = W.frozen? ⟨b, o, none⟩) :=
  ⟨fun b o h => hb.cell (p := ⟨b, o, none⟩) h, fun b o h => hb.frozen (p := ⟨b, o, none⟩) h⟩
@[go_sem] theorem u32_signed : IntKind.u32.signed = false := rfl
@[go_sem] theorem u32_max : IntKind.u32.max = 4294967295 := rfl
/-- Bytes as cells. -/
def cellsOf (l : List UInt8) : Array Value := (l.map fun b => Value.int .u8 (b.toNat : Int)).toArray
theorem cell_row {w : World} {g : Nat} {c : Array Value} {t : TypeId} {fz : Nat × Nat} (h : w.heap[g]? = some (.cells c t fz)) (j : Nat) : w.cell? ⟨g, j, none⟩ = c[j]? := by simp [World.cell?, h]
theorem cellsOf_size (l : List UInt8) : (cellsOf l).size = l.length := by simp [cellsOf]
theorem cellsOf_set (l : List UInt8) (r : Array Value) (j : Nat) (b : UInt8) (hj : j < l.length) : (cellsOf l ++ r).setIfInBounds j (.int .u8 (b.toNat : Int)) = cellsOf (l.set j b) ++ r := by
  apply Array.ext_getElem?
  intro i
  rw [Array.getElem?_setIfInBounds]
  by_cases h : i < l.length
  · rw [Array.getElem?_append_left (by simpa [cellsOf] using h), Array.getElem?_append_left (by simpa [cellsOf] using h)]
    by_cases e : j = i
    · subst e; simp [cellsOf, hj]; omega
    · rw [if_neg e]; simp [cellsOf, e]
  · rw [if_neg (by omega), Array.getElem?_append_right (by simp [cellsOf]; omega), Array.getElem?_append_right (by simp [cellsOf]; omega)]
    simp [cellsOf]
theorem addr_add (b o j : Nat) : (⟨b, o, none⟩ : Addr).add j = ⟨b, o + j, none⟩ := by unfold Addr.add; split <;> simp_all
theorem cellsOf_getD (l : List UInt8) (r : Array Value) (j : Nat) (hj : j < l.length) : (cellsOf l ++ r)[j]? = some (.int .u8 ((l.getD j 0).toNat : Int)) := by
  rw [Array.getElem?_append_left (by simpa [cellsOf] using hj)]; simp [cellsOf, hj]
theorem cellsOf_get (l : List UInt8) (j : Nat) (hj : j < l.length) : (cellsOf l)[j]? = some (.int .u8 (l[j].toNat : Int)) := by simp [cellsOf, hj]
theorem cells_new {w : World} {c : Array Value} {t : TypeId} {l : List UInt8} (h : c = cellsOf l) : ∀ j (hj : j < l.length), (w.alloc (.cells c t)).cell? ((⟨w.heap.size, 0, none⟩ : Addr).add j) = some (.int .u8 (l[j].toNat : Int)) := by
  intro j hj
  rw [addr_add, cell_row (World.alloc_heap_new w _), Nat.zero_add, h, cellsOf_get l j hj]
end Ros
