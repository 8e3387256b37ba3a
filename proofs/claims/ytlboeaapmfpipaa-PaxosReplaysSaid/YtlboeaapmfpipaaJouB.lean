/-
  The record that bytes begin with, by journal and by its reference. Conditions: strings are at most as long as Go allows.
-/
import Derived.Test.YtlboeaapmfpipaaJouA
namespace Ros
open Go Go.RowKit
theorem num_ext (s : ByteArray) : getN (bl (s.extract 1 5)) = numL (bl s) := by rw [bl_extract]; rfl
theorem numE_ext (s : ByteArray) (h : 9 ≤ s.size) : getE (bl (s.extract 1 5)) = 0 := (getN_yes (by rw [bl_extract]; simp [← size_bl]; omega)).2
theorem getN_lt (l : List UInt8) : getN l < 4294967296 := by
  by_cases h : l.length = 4
  · rw [(getN_yes h).1]; have := le_lt l; rw [h] at this; simpa using this
  · rw [(getN_no h).1]; omega
theorem fst_no {s : ByteArray} (h : okOne (bl s) = false) : (⟨#[]⟩ : ByteArray) = str (oneD (bl s)) ∧ oneN (bl s) = 0 := by
  rw [(one_no h).1, (one_no h).2]; exact ⟨rfl, rfl⟩
theorem ok_iff (s : ByteArray) (h0 : 0 < s.size) : okOne (bl s) = true ↔ 9 ≤ s.size ∧ s[0].toNat = 52 ∧ numL (bl s) ≤ 4096 ∧ numL (bl s) + 9 ≤ s.size ∧ openB (bl (s.extract 0 (numL (bl s) + 9))) = true := by
  rw [okOne_iff, ← size_bl, bl_extract0, bl_getD s 0 h0]
  constructor
  · rintro ⟨h1, h2, h3⟩; exact ⟨h1, by rw [h2]; rfl, h3⟩
  · rintro ⟨h1, h2, h3⟩; exact ⟨h1, by rw [← UInt8.toNat_inj]; exact h2, h3⟩
theorem fst_yes {s : ByteArray} (h : okOne (bl s) = true) : str ((openL (bl (s.extract 0 (numL (bl s) + 9)))).drop 5) = str (oneD (bl s)) ∧ oneN (bl s) = numL (bl s) + 9 := by
  rw [(one_yes h).1, (one_yes h).2, bl_extract0]; exact ⟨rfl, rfl⟩
theorem sl_ab {P : Program} {t : TypeId} (ht : P.underlying t = some .string) (s : ByteArray) (a b : Nat) (hab : a ≤ b) (hb : b ≤ s.size) (i j : Int) (hi : i = (a : Int)) (hj : j = (b : Int)) (W : World) :
    (Instr.slice t (.string s) (some (.int .i64 i)) (some (.int .i64 j)) none).run P W = .ok (.string (s.extract a b)) W := by
  subst hi; subst hj
  simp [Instr.slice, Instr.sliceBounds, Instr.sliceBound, asIntOf, run_underlying ht, hab, hb]
end Ros
namespace Go.Proofs.Ytlboeaapmfpipaa
open Go.RowKit Go.Shelf Ros
attribute [local go_sem] Oper.semAt_some

theorem sl_h {P : Program} {t : TypeId} (ht : P.underlying t = some .string) (s : ByteArray) (b : Nat) (hb : b ≤ s.size) (j : Int) (hj : j = (b : Int)) (W : World) :
    (Instr.slice t (.string s) none (some (.int .i64 j)) none).run P W = .ok (.string (s.extract 0 b)) W := by
  subst hj
  simp [Instr.slice, Instr.sliceBounds, Instr.sliceBound, asIntOf, run_underlying ht, hb]
theorem sl_l {P : Program} {t : TypeId} (ht : P.underlying t = some .string) (s : ByteArray) (a : Nat) (ha : a ≤ s.size) (i : Int) (hi : i = (a : Int)) (W : World) :
    (Instr.slice t (.string s) (some (.int .i64 i)) none none).run P W = .ok (.string (s.extract a s.size)) W := by
  subst hi
  simp [Instr.slice, Instr.sliceBounds, Instr.sliceBound, asIntOf, run_underlying ht, ha]

end Go.Proofs.Ytlboeaapmfpipaa
