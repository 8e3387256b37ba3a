/-
  What crc and its reference compute, each function by one Lean function for all its inputs. Conditions: strings are at most as long as Go allows.
-/
import Derived.Test.YtcbihioflmfgjaaDoorCrcO
import Derived.Test.YtcbihioflmfgjaaDoorCrcC
namespace Ros
/-- The number of four bytes, and the error. -/
@[irreducible] def getN (l : List UInt8) : Nat := if l.length = 4 then le l else 0
@[irreducible] def getE (l : List UInt8) : Nat := if l.length = 4 then 0 else 2
@[irreducible] def openB (l : List UInt8) : Bool := decide (4 ≤ l.length) && sealed l
@[irreducible] def openL (l : List UInt8) : List UInt8 := if openB l = true then l.take (l.length - 4) else []
@[irreducible] def okBit (n : Nat) (bit : Int) : Bool := decide (0 ≤ bit ∧ bit < 8 * (n : Int))
@[irreducible] def chgL (l : List UInt8) (bit : Int) (mask : Nat) : List UInt8 := if okBit l.length bit = true then chg l bit.toNat mask else []
@[irreducible] def chgE (l : List UInt8) (bit : Int) : Nat := if okBit l.length bit = true then 0 else 2
theorem getN_yes {l : List UInt8} (h : l.length = 4) : getN l = le l ∧ getE l = 0 := by unfold getN getE; simp [h]
theorem getN_no {l : List UInt8} (h : l.length ≠ 4) : getN l = 0 ∧ getE l = 2 := by unfold getN getE; simp [h]
theorem openB_short {l : List UInt8} (h : l.length < 4) : openB l = false := by unfold openB; simp; omega
theorem openB_long {l : List UInt8} (h : 4 ≤ l.length) : openB l = sealed l := by unfold openB; simp [h]
theorem openL_no {l : List UInt8} (h : openB l = false) : openL l = [] := by unfold openL; simp [h]
theorem openL_yes {l : List UInt8} (h : openB l = true) : openL l = l.take (l.length - 4) := by unfold openL; simp [h]
theorem okBit_iff {n : Nat} {bit : Int} : okBit n bit = true ↔ 0 ≤ bit ∧ bit < 8 * (n : Int) := by unfold okBit; simp
theorem okBit_no {n : Nat} {bit : Int} : okBit n bit = false ↔ bit < 0 ∨ 8 * (n : Int) ≤ bit := by unfold okBit; simp; omega
theorem chgL_yes {l : List UInt8} {bit : Int} {mask : Nat} (h : okBit l.length bit = true) : chgL l bit mask = chg l bit.toNat mask ∧ chgE l bit = 0 := by unfold chgL chgE; simp [h]
theorem chgL_no {l : List UInt8} {bit : Int} {mask : Nat} (h : okBit l.length bit = false) : chgL l bit mask = [] ∧ chgE l bit = 2 := by unfold chgL chgE; simp [h]
theorem getN_put (n : Nat) (hn : n < 4294967296) : getN (toB 4 n) = n ∧ getE (toB 4 n) = 0 := by
  rw [(getN_yes (toB_length 4 n)).1, le_toB]
  exact ⟨Nat.mod_eq_of_lt (by simpa using hn), (getN_yes (toB_length 4 n)).2⟩
theorem open_seal (l : List UInt8) : openB (seal4 l) = true ∧ openL (seal4 l) = l := by
  have h : openB (seal4 l) = true := by rw [openB_long (by rw [seal4_length]; omega)]; exact sealed_seal4 l
  exact ⟨h, by rw [openL_yes h, seal4_take]⟩
end Ros
namespace Go.Proofs.YtcbihioflmfgjaaDoor
open Go.RowKit Go.Shelf Ros

theorem get_all (s : ByteArray) (w : World) : Calls Tryd.prog 50 #[.string s] w fun e w' => e = .returned (.tuple #[.int .u32 ((getN (bl s) : Nat) : Int), .int .i64 ((getE (bl s) : Nat) : Int)]) ∧ Below w.heap.size w w' := by
  by_cases h : s.size = 4
  · have h2 := getN_yes (l := bl s) (by rw [← size_bl]; exact h)
    rw [h2.1, h2.2]; exact get_yes s w h
  · have h2 := getN_no (l := bl s) (by rw [← size_bl]; exact h)
    rw [h2.1, h2.2]; exact get_no s w h
theorem refget_all (s : ByteArray) (w : World) : Calls Tryd.prog 44 #[.string s] w fun e w' => e = .returned (.tuple #[.int .u32 ((getN (bl s) : Nat) : Int), .int .i64 ((getE (bl s) : Nat) : Int)]) ∧ Below w.heap.size w w' := by
  by_cases h : s.size = 4
  · have h2 := getN_yes (l := bl s) (by rw [← size_bl]; exact h)
    rw [h2.1, h2.2]; exact refget_yes s w h
  · have h2 := getN_no (l := bl s) (by rw [← size_bl]; exact h)
    rw [h2.1, h2.2]; exact refget_no s w h
theorem sealed_bl (s : ByteArray) (h : 4 ≤ s.size) : (bl (s.extract (s.size - 4) s.size) == toB 4 (sum (bl (s.extract 0 (s.size - 4))))) = openB (bl s) := by
  rw [openB_long (by rw [← size_bl]; exact h), sealed, bl_extract, bl_extract0, size_bl, List.take_length]
theorem open_str (s : ByteArray) : (if openB (bl s) = true then s.extract 0 (s.size - 4) else str []) = str (openL (bl s)) := by
  cases h : openB (bl s) with
  | true => rw [if_pos rfl, openL_yes h]; exact str_of (by rw [bl_extract0, size_bl])
  | false => rw [if_neg (by simp), openL_no h]
theorem open_all (s : ByteArray) (w : World) (hs : s.size ≤ maxLen) : Calls Tryd.prog 31 #[.string s] w fun e w' => e = .returned (.tuple #[.string (str (openL (bl s))), .bool (openB (bl s))]) ∧ Below w.heap.size w w' := by
  by_cases h : s.size < 4
  · have h2 := openB_short (l := bl s) (by rw [← size_bl]; exact h)
    rw [openL_no h2, h2]; exact open_short s w h
  · rw [← open_str s]; exact open_any s w (by omega) hs _ (sealed_bl s (by omega))
theorem refopen_all (s : ByteArray) (w : World) (hs : s.size ≤ maxLen) : Calls Tryd.prog 34 #[.string s] w fun e w' => e = .returned (.tuple #[.string (str (openL (bl s))), .bool (openB (bl s))]) ∧ Below w.heap.size w w' := by
  by_cases h : s.size < 4
  · have h2 := openB_short (l := bl s) (by rw [← size_bl]; exact h)
    rw [openL_no h2, h2]; exact refopen_short s w h
  · rw [← open_str s]; exact refopen_any s w (by omega) hs _ (sealed_bl s (by omega))
theorem change_all (s : ByteArray) (bit : Int) (mask : Nat) (w : World) (hs : s.size ≤ 140737488355328) (hm : mask < 4294967296) (hb1 : -9223372036854775808 ≤ bit) (hb2 : bit ≤ 9223372036854775807) :
    Calls Tryd.prog 24 #[.string s, .int .i64 bit, .int .u32 (mask : Int)] w fun e w' => e = .returned (.tuple #[.string (str (chgL (bl s) bit mask)), .int .i64 ((chgE (bl s) bit : Nat) : Int)]) ∧ Below w.heap.size w w' := by
  cases h : okBit (bl s).length bit with
  | false =>
    rw [(chgL_no (mask := mask) h).1, (chgL_no (mask := mask) h).2]
    rw [okBit_no, ← size_bl] at h
    exact change_no s bit mask w hs hb1 hb2 h
  | true =>
    rw [(chgL_yes (mask := mask) h).1, (chgL_yes (mask := mask) h).2]
    rw [okBit_iff, ← size_bl] at h
    obtain ⟨n, rfl⟩ := Int.eq_ofNat_of_zero_le h.1
    exact change_yes s n mask w hs hm (by omega)
end Go.Proofs.YtcbihioflmfgjaaDoor
