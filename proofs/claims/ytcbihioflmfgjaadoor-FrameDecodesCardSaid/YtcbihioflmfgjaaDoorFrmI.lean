/-
  What stands in memory while the numbers of a frame are filled in. Conditions: none.
-/
import Derived.Test.YtcbihioflmfgjaaDoorFrmH
namespace Ros
open Go Go.RowKit
/-- The number i of a frame, when m are filled in. -/
def rdN (s : ByteArray) (k m i : Nat) : Nat := if i < m ∧ i < k then numN s (4 + 4 * i) else 0
def rdZ (s : ByteArray) (k m : Nat) : Nat := if k < m then numN s (4 + 4 * k) else 0
def rdC (s : ByteArray) (k m : Nat) (b1 b2 b3 b4 : Int) (d : ByteArray) : Array Value :=
  #[.int .i64 b1, .int .i64 b2, .int .i64 b3, .int .i64 b4, .int .u32 (rdN s k m 0 : Int), .int .u32 (rdN s k m 1 : Int), .int .u32 (rdN s k m 2 : Int), .int .u32 (rdN s k m 3 : Int), .string d]
def rdA (F G k : Nat) : Array Value :=
  if k = 3 then #[.pointer (some ⟨F, 4, none⟩), .pointer (some ⟨F, 5, none⟩), .pointer (some ⟨F, 6, none⟩), .pointer (some ⟨G, 0, none⟩)]
  else #[.pointer (some ⟨F, 4, none⟩), .pointer (some ⟨F, 5, none⟩), .pointer (some ⟨F, 6, none⟩), .pointer (some ⟨F, 7, none⟩), .pointer (some ⟨G, 0, none⟩)]
end Ros
namespace Go.Proofs.YtcbihioflmfgjaaDoor
open Go.RowKit Go.Shelf Ros Go.Maps
attribute [local go_sem] Oper.semAt_some
set_option linter.unusedVariables false
/-- k numbers go into the frame's box at F, the last one into the box at G; T holds where. -/
def RdI (s : ByteArray) (k F G T : Nat) (b1 b2 b3 b4 : Int) (d : ByteArray) (m : Nat) (W : World) : Prop :=
  W.heap[F]? = some (.cells (rdC s k m b1 b2 b3 b4 d) 24 (0, 0)) ∧ W.heap[G]? = some (.cells #[.int .u32 (rdZ s k m : Int)] 22 (0, 0)) ∧ W.heap[T]? = some (.cells (rdA F G k) 69 (0, 0))
theorem RdI.step {s : ByteArray} {k F G T : Nat} {b1 b2 b3 b4 : Int} {d : ByteArray} {m : Nat} {W : World} (hk : k = 3 ∨ k = 4) (hFG : F ≠ G) (hFT : F ≠ T) (hGT : G ≠ T) (h : RdI s k F G T b1 b2 b3 b4 d m W) (hm : m ≤ k) :
    ∃ p : Addr, W.cell? ⟨T, m, none⟩ = some (.pointer (some p)) ∧ W.frozen? p = false ∧ (∃ v, W.cell? p = some v) ∧ (p.block = F ∨ p.block = G) ∧ RdI s k F G T b1 b2 b3 b4 d (m + 1) (W.setCell p (.int .u32 (numN s (4 + 4 * m) : Int))) := by
  obtain ⟨h1, h2, h3⟩ := h
  by_cases hl : m < k
  · refine ⟨⟨F, 4 + m, none⟩, ?_, obj_frozen h1 _, ?_, .inl rfl, ?_, ?_, obj_far h3 (p := ⟨F, 4 + m, none⟩) (fun e => hFT e.symm) _⟩
    · rw [cell_row h3 m]
      have : m = 0 ∨ m = 1 ∨ m = 2 ∨ m = 3 := by omega
      rcases hk with rfl | rfl <;> rcases this with rfl | rfl | rfl | rfl <;> first | rfl | omega
    · rw [cell_row h1 (4 + m)]
      have : m = 0 ∨ m = 1 ∨ m = 2 ∨ m = 3 := by omega
      rcases this with rfl | rfl | rfl | rfl <;> exact ⟨_, rfl⟩
    · rw [obj_set h1 (4 + m) _]
      have : m = 0 ∨ m = 1 ∨ m = 2 ∨ m = 3 := by omega
      rcases hk with rfl | rfl <;> rcases this with rfl | rfl | rfl | rfl <;> first | omega | simp [rdC, rdN]
    · rw [show rdZ s k (m + 1) = rdZ s k m by unfold rdZ; rw [if_neg (by omega), if_neg (by omega)]]
      exact obj_far h2 (p := ⟨F, 4 + m, none⟩) (fun e => hFG e.symm) _
  · have e : m = k := by omega
    subst e
    refine ⟨⟨G, 0, none⟩, ?_, obj_frozen h2 _, ⟨_, cell_row h2 0⟩, .inr rfl, ?_, ?_, obj_far h3 (p := ⟨G, 0, none⟩) (fun e => hGT e.symm) _⟩
    · rw [cell_row h3 m]
      rcases hk with rfl | rfl <;> rfl
    · have := obj_far h1 (p := ⟨G, 0, none⟩) hFG (.int .u32 (numN s (4 + 4 * m) : Int))
      rw [this]
      rcases hk with rfl | rfl <;> simp [rdC, rdN]
    · rw [obj_set h2 0 _]
      simp [rdZ]
end Go.Proofs.YtcbihioflmfgjaaDoor
