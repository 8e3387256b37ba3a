/-
  Whole, repaired, appended, by journal and by its reference. Conditions: strings are at most 2^26 bytes long.
-/
import Derived.Test.YtlboeaapmfpipaaJouD
import Derived.ScopeJumps
namespace Ros
open Go Go.RowKit
@[irreducible] def wholeB (s : ByteArray) : Bool := decide ((readL (bl s)).2 = s.size)
theorem wholeB_iff (s : ByteArray) : wholeB s = true ↔ (readL (bl s)).2 = s.size := by unfold wholeB; simp
@[irreducible] def repS (s : ByteArray) : ByteArray := s.extract 0 (readL (bl s)).2
theorem repS_def (s : ByteArray) : repS s = s.extract 0 (readL (bl s)).2 := by unfold repS; rfl
/-- How many bytes of a record are kept. -/
def clampN (keep : Int) (n : Nat) : Nat := if keep ≤ 0 then 0 else if keep < n then keep.toNat else n
theorem clampN_le (keep : Int) (n : Nat) : clampN keep n ≤ n := by unfold clampN; split <;> (try split) <;> omega
@[irreducible] def appS (s d : ByteArray) (keep : Int) : ByteArray := if wholeB s = true ∧ d.size ≤ 4096 ∧ s.size + (d.size + 9) ≤ 1048576 then s ++ (str (recL (bl d))).extract 0 (clampN keep (d.size + 9)) else ⟨#[]⟩
@[irreducible] def appE (s d : ByteArray) : Nat := if wholeB s = true then (if d.size ≤ 4096 ∧ s.size + (d.size + 9) ≤ 1048576 then 0 else 30) else 31
theorem app_torn {s : ByteArray} (d : ByteArray) (keep : Int) (h : wholeB s = false) : appS s d keep = ⟨#[]⟩ ∧ appE s d = 31 := by unfold appS appE; simp [h]
theorem app_full {s d : ByteArray} (keep : Int) (h : wholeB s = true) (h2 : ¬ (d.size ≤ 4096 ∧ s.size + (d.size + 9) ≤ 1048576)) : appS s d keep = ⟨#[]⟩ ∧ appE s d = 30 := by
  unfold appS appE; rw [if_pos h, if_neg h2, if_neg (fun e => h2 e.2)]; exact ⟨rfl, rfl⟩
theorem app_yes {s d : ByteArray} (keep : Int) (h : wholeB s = true) (h2 : d.size ≤ 4096 ∧ s.size + (d.size + 9) ≤ 1048576) : appS s d keep = s ++ (str (recL (bl d))).extract 0 (clampN keep (d.size + 9)) ∧ appE s d = 0 := by
  unfold appS appE; rw [if_pos h, if_pos h2, if_pos ⟨h, h2⟩]; exact ⟨rfl, rfl⟩
theorem rec_size (d : ByteArray) : (str (recL (bl d))).size = d.size + 9 := by rw [size_str, recL_length, ← size_bl]
theorem join2 (a b : ByteArray) : joinB [a, b] = a ++ b := by apply bl_inj; rw [bl_joinB, bl_append]; simp
theorem jump_ret {l : Nat} {J : Act → World → Prop} {Q : Exit → Act → World → Prop} {a : Act} {w : World} : Exit.jump l J Q .ret a w = Q .ret a w := rfl
theorem then_goto {l : Nat} {K : Act → World → Prop} {J : Act → World → Prop} {Q : Exit → Act → World → Prop} {a : Act} {w : World} (h : J a w) : Exit.then K (Exit.jump l J Q) (.goto l) a w := ⟨rfl, h⟩
end Ros
namespace Go.Proofs.Ytlboeaapmfpipaa
open Go.RowKit Go.Shelf Ros
attribute [local go_sem] Oper.semAt_some

end Go.Proofs.Ytlboeaapmfpipaa
