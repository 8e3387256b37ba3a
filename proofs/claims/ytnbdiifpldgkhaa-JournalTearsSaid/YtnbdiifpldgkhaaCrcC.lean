/-
  What Change of crc and of its reference computes. Conditions: strings are at most as long as Go allows.
-/
import Derived.Test.YtnbdiifpldgkhaaCrcB
import Derived.Test.YtnbdiifpldgkhaaCrcN
import Derived.WalkMore
namespace Go.Proofs.Ytnbdiifpldgkhaa
open Go.RowKit Go.Shelf Ros
attribute [local go_sem] Oper.semAt_some

theorem put5_cells (m : Nat) (hm : m < 2 ^ 40) : #[Value.int .u8 ((m : Int) % 256), .int .u8 ((m : Int) / 256 % 256), .int .u8 ((m : Int) / 65536 % 256), .int .u8 ((m : Int) / 16777216 % 256), .int .u8 ((m : Int) / 4294967296)] = cellsOf (toB 5 m) := by
  simp only [cellsOf, toB, List.map_cons, List.map_nil, UInt8.toNat_ofNat', Nat.reducePow]
  congr 1
  simp
  omega

theorem chg_cell (l : List UInt8) (a m k : Nat) (rest : Array Value) (h : a + k < l.length) (hk : k < 5) (hq : a + k < (chgK l a m k).length) :
    (cellsOf (chgK l a m k) ++ rest).setIfInBounds (a + k) (.int .u8 (bits .xor .u8 (((chgK l a m k)[a + k]'hq).toNat : Int) (((bl (str (toB 5 m)))[k]?.getD 0).toNat : Int))) = cellsOf (chgK l a m (k + 1)) ++ rest := by
  rw [u8_xor_nat _ _ (UInt8.toNat_lt _) (UInt8.toNat_lt _), ← UInt8.toNat_xor, cellsOf_set _ _ _ _ hq, ← chgK_succ _ _ _ _ h]
  have e1 : (bl (str (toB 5 m)))[k]?.getD 0 = UInt8.ofNat (m / 256 ^ k) := by rw [bl_str, ← List.getD_eq_getElem?_getD, toB_get 5 k m hk]
  have e2 : (chgK l a m k)[a + k]'hq = (chgK l a m k).getD (a + k) 0 := by simp [hq]
  rw [e1, e2]

theorem ref_bit (mask n : Nat) (hm : mask < 4294967296) : bits .and .u32 ((mask : Int) / 2 ^ n) 1 = ((mask / 2 ^ n % 2 : Nat) : Int) := by
  have e : (mask : Int) / 2 ^ n = ((mask / 2 ^ n : Nat) : Int) := by simp
  have hlt : mask / 2 ^ n < 4294967296 := Nat.lt_of_le_of_lt (Nat.div_le_self _ _) hm
  have h := u32_and_nat (mask / 2 ^ n) 1 hlt (by omega)
  rw [show ((1 : Nat) : Int) = 1 from rfl] at h
  rw [e, h, Nat.and_one_is_mod]

theorem ref_cell (l : List UInt8) (rest : Array Value) (j q : Nat) (hq : j < l.length) :
    (cellsOf l ++ rest).setIfInBounds j (.int .u8 (bits .xor .u8 ((l[j]'hq).toNat : Int) (2 ^ q % 256))) = cellsOf (l.set j (l.getD j 0 ^^^ UInt8.ofNat (2 ^ q))) ++ rest := by
  have e : (2 : Int) ^ q % 256 = ((UInt8.ofNat (2 ^ q)).toNat : Int) := by rw [UInt8.toNat_ofNat']; simp
  have e2 : l.getD j 0 = l[j]'hq := by simp [hq]
  rw [e, u8_xor_nat _ _ (UInt8.toNat_lt _) (UInt8.toNat_lt _), ← UInt8.toNat_xor, cellsOf_set _ _ _ _ hq, e2]

end Go.Proofs.Ytnbdiifpldgkhaa
