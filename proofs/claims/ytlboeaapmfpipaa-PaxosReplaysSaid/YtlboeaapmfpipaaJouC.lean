/-
  What is read of bytes, by journal: the iterator over the places, and the list. Conditions: strings are at most 2^26 bytes long.
-/
import Derived.Test.YtlboeaapmfpipaaJouB
import Derived.Test.YtlboeaapmfpipaaRound
import Derived.BigQuiet
import Derived.Deep.QuietTactic
import Derived.Maps.AppendAt
import Derived.RangeFuncBox
namespace Ros
open Go Go.RowKit
def encR (x : List UInt8 × Nat) : Array Value := #[.string (str x.1), .int .i64 (x.2 : Int)]
def szOf : Value → Nat
  | .string s => s.size
  | _ => 0
@[simp] theorem szOf_str (s : ByteArray) : szOf (.string s) = s.size := rfl
theorem bl_from (s : ByteArray) (n : Nat) : bl (s.extract n s.size) = (bl s).drop n := by rw [bl_extract, size_bl, List.take_length]
theorem row_of_owns {W : World} {b : Nat} {e : TypeId} {size n : Nat} {v : Value} {xs : List Value} (h : W.ownsRow b e size v n xs) : Row W e size v n xs := by
  refine ⟨h.1, ?_⟩
  rcases h.2 with h1 | ⟨g, cap, cur, e1, _, e2, e3, e4, e5, e6⟩
  · exact .inl h1
  · exact .inr ⟨g, cap, cur, e1, e2, e3, e4, by omega, e6⟩
theorem owns_down {W : World} {b b' : Nat} {e : TypeId} {size n : Nat} {v : Value} {xs : List Value} (h : W.ownsRow b e size v n xs) (hb : b' ≤ b) : W.ownsRow b' e size v n xs := by
  refine ⟨h.1, ?_⟩
  rcases h.2 with h1 | ⟨g, cap, cur, e1, e0, e2, e3, e4, e5, e6⟩
  · exact .inl h1
  · exact .inr ⟨g, cap, cur, e1, by omega, e2, e3, e4, e5, e6⟩
/-- 'out = append(out, ..)', the row's base beyond the boxes' own. -/
theorem appended2 {W w1 : World} {n₀ n₁ B : Nat} {t e : TypeId} {size : Nat} {v v' : Value} {k m : Nat} {xs ys : List Value} {tmp : Obj}
    (hv : Boxed W B t v) (hte : t ≠ e) (hrow : W.ownsRow n₁ e size v k xs) (hn₀ : n₀ ≤ W.heap.size) (h01 : n₀ ≤ n₁) (hB : n₀ ≤ B)
    (hown' : w1.ownsRow n₁ e size v' m ys) (hgrow : (W.alloc tmp).grownBy w1 v.ownBlock) :
    Boxed w1 B t v ∧ Boxed (w1.setCell ⟨B, 0, none⟩ v') B t v' ∧ (w1.setCell ⟨B, 0, none⟩ v').ownsRow n₁ e size v' m ys ∧ KeepsOthers W (w1.setCell ⟨B, 0, none⟩ v') ∧ Below n₀ W (w1.setCell ⟨B, 0, none⟩ v') := by
  obtain ⟨h1, h2, _, h4, h5⟩ := hv.appended hte (owns_down hrow h01) hn₀ hB (owns_down hown' h01) hgrow
  exact ⟨h1, h2, hown'.kept (grownBy_setCell' w1 B v') (.inr (h1.not_row hte hown').symm), h4, h5⟩
/-- A box below the row's base. -/
theorem boxed_under {W w1 : World} {n₁ B : Nat} {t e : TypeId} {size : Nat} {u v : Value} {k : Nat} {xs : List Value} {tmp : Obj} (hb : Boxed W B t u) (hB : B < n₁) (hrow : W.ownsRow n₁ e size v k xs) (hgrow : (W.alloc tmp).grownBy w1 v.ownBlock) : Boxed w1 B t u :=
  (hb.alloc tmp).kept hgrow fun e => by have := (hrow.lt _ e.symm).1; omega
theorem box_far {W : World} {B g : Nat} {t : TypeId} {v : Value} (h : Boxed W B t v) (hne : B ≠ g) (j : Nat) (u : Value) : Boxed (W.setCell ⟨g, j, none⟩ u) B t v := obj_far (p := ⟨g, j, none⟩) h hne u
theorem row_put {W : World} {e : TypeId} {size n D : Nat} {v : Value} {xs : List Value} {o : Obj} (h : Row W e size v n xs) (hD : W.heap[D]? = some o) (hc : o.isCells = false) (o' : Obj) : Row (W.putObj D o') e size v n xs := by
  refine h.keep fun k hk => World.putObj_heap_other fun he => ?_
  subst he
  rcases h.2 with ⟨rfl, _⟩ | ⟨g, cap, cur, rfl, hg, _⟩
  · simp [Value.ownBlock] at hk
  · simp [Value.ownBlock] at hk
    subst hk
    rw [hg] at hD; cases hD; cases hc
theorem row_self {W : World} {e : TypeId} {n c : Nat} {A : Option Addr} {xs : List Value} (h : Row W e 1 (.slice A n c) n xs) : Row W e 1 (.slice A n n) n xs := by
  have h1 := h.cut3 (Nat.le_refl n)
  rwa [List.take_of_length_le (by rw [h.1]; exact Nat.le_refl _)] at h1
theorem row_dN {W : World} {e : TypeId} {size n : Nat} {v : Value} {xs : List Value} (h : Row W e size v n xs) (k : Nat) : Row (W.drewN k) e size v n xs := h
theorem below_dn {B : Nat} {a w : World} (h : Below B a w) (n : Nat) : Below B a (w.drewN n) := ⟨h.os, h.tape, h.output, h.size, h.block⟩
end Ros
namespace Go.Proofs.Ytlboeaapmfpipaa
open Go.RowKit Go.Shelf Ros
attribute [local go_sem] Oper.semAt_some

theorem str_info : (Try.prog.info? 9).map (fun i => (i.zero, i.size, i.bytes)) = some (some (.string ⟨#[]⟩), 1, 16) := by kernel_rfl

end Go.Proofs.Ytlboeaapmfpipaa
