/-
  What is read of bytes, by the reference; whole, repaired, appended. Conditions: strings are at most 2^26 bytes long.
-/
import Derived.Test.YtlboeaapmfpipaaJouC
namespace Ros
open Go Go.RowKit
theorem owns_below {W w1 : World} {b : Nat} {e : TypeId} {size n : Nat} {v : Value} {xs : List Value} (h : W.ownsRow b e size v n xs) (hb : Below W.heap.size W w1) : w1.ownsRow b e size v n xs :=
  h.kept (row := none) ⟨hb.os, hb.tape, hb.output, hb.size, fun k hk _ => hb.block k hk⟩ (by cases h' : v.ownBlock <;> simp)
theorem owns_form {W : World} {b : Nat} {e : TypeId} {size n : Nat} {v : Value} {xs : List Value} (h : W.ownsRow b e size v n xs) : ∃ A c, v = .slice A n c := by
  obtain ⟨A, c, h1, _⟩ := (row_of_owns h).form
  exact ⟨A, c, h1⟩
end Ros
namespace Go.Proofs.Ytlboeaapmfpipaa
open Go.RowKit Go.Shelf Ros
attribute [local go_sem] Oper.semAt_some

end Go.Proofs.Ytlboeaapmfpipaa
