/-
  The laws on journals, walked: reads, appends. Conditions: arguments are as the row reads them.
-/
import Derived.Test.YtlboeaapmfpipaaJouE
import Derived.Test.YtlboeaapmfpipaaSame
namespace Ros
open Go Go.RowKit
/-- The first k bytes. -/
def cutB (k : Nat) (s : ByteArray) : ByteArray := s.extract 0 (min s.size k)
theorem cutB_size (k : Nat) (s : ByteArray) : (cutB k s).size ≤ k := by
  unfold cutB; rw [size_bl, bl_extract0, List.length_take]; omega
theorem cutB_long (k : Nat) (s : ByteArray) (h : k < s.size) : cutB k s = s.extract 0 k := by unfold cutB; rw [Nat.min_eq_right (by omega)]
theorem cutB_short (k : Nat) (s : ByteArray) (h : s.size ≤ k) : cutB k s = s := by
  unfold cutB; rw [Nat.min_eq_left h]
  apply bl_inj
  rw [bl_extract0, size_bl, List.take_length]
theorem bl_cutB (k : Nat) (s : ByteArray) : bl (cutB k s) = (bl s).take k := by
  unfold cutB; rw [bl_extract0]
  by_cases h : s.size ≤ k
  · rw [Nat.min_eq_left h, size_bl, List.take_length, List.take_of_length_le (by rw [← size_bl]; exact h)]
  · rw [Nat.min_eq_right (by omega)]
end Ros
namespace Go.Proofs.Ytlboeaapmfpipaa
open Go.RowKit Go.Shelf Ros
attribute [local go_sem] Oper.semAt_some

theorem same_any (A B : Option Addr) (ca cb : Nat) (l m : List (List UInt8)) (w : World) (ha : ArgAt w 1 A l.length (cellsS l)) (hb : ArgAt w 1 B m.length (cellsS m)) (hl : l.length ≤ maxLen) (hm : m.length ≤ maxLen) :
    Calls Try.prog 19 #[.slice A l.length ca, .slice B m.length cb] w fun e w' => e = .returned (.bool (decide (l = m))) ∧ Below w.heap.size w w' := by
  have h := strSame_any A B ca cb (l.map str) (m.map str) w (by rw [List.length_map, ← cellsS_map]; exact ha) (by rw [List.length_map, ← cellsS_map]; exact hb) (by rw [List.length_map]; exact hl) (by rw [List.length_map]; exact hm)
  rw [List.length_map, List.length_map] at h
  rwa [decide_eq_decide.2 (map_str_eq l m)] at h

theorem rec_a : str (recL (bl ⟨#[97]⟩)) = ⟨#[52, 1, 0, 0, 0, 97] ++ (toB 4 (sum [52, 1, 0, 0, 0, 97])).toArray⟩ := by
  rw [recL_def, seal4]; rfl
theorem read_a : readL (bl (str (recL (bl ⟨#[97]⟩)))) = ([[97]], 10) := by
  have h := read_recs' [[97]] (by simp)
  rw [recs_one] at h
  rw [bl_str, show bl ⟨#[97]⟩ = [97] from rfl, h, recL_length]; rfl

end Go.Proofs.Ytlboeaapmfpipaa
