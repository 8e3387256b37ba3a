/-
  A link in memory; a new one. Conditions: numbers are as the program's types allow.
-/
import Derived.Test.YtbmlenffcmmkbaaFraA
import Derived.Test.YtbmlenffcmmkbaaArg
import Derived.Test.YtbmlenffcmmkbaaRound
namespace Ros
open Go Go.RowKit Go.Maps Go.ChangeMaps
/-- A link: its life, the first number that is out, what is out, the peer's life, the number waited for, the rest. -/
structure Lk where
  life : Nat
  first : Nat
  outs : List ByteArray
  peerLife : Nat
  waits : Nat
  self : Int
  peer : Int
  wire : Int
  window : Int
def ekW (n : Nat) : Value := .int .u32 (n : Int)
theorem ekW_inj : ∀ x y, ekW x = ekW y → x = y := fun x y h => by injection h; omega
def outsV (s : Lk) : Nat → Option Value := fun n => if s.first ≤ n then (s.outs[n - s.first]?).map fun d => .agg #[.string d] else none
theorem u32_wf {n : Nat} (h : n < 4294967296) : (Lit.int .u32 (n : Int)).wf = true := by
  simp [Lit.wf, IntKind.min, IntKind.max, IntKind.signed, IntKind.bits]; omega
def cellsLk (s : Lk) (b : Nat) : Array Value := #[.int .u32 (s.life : Int), .int .u32 (s.first : Int), .int .u32 ((s.first + s.outs.length : Nat) : Int), .map (some b), .int .u32 (s.peerLife : Int), .int .u32 (s.waits : Int), .int .i64 s.self, .int .i64 s.peer, .int .i64 s.wire, .int .i64 s.window]
end Ros
namespace Go.Proofs.Ytbmlenffcmmkbaa
open Go.RowKit Go.Shelf Ros Go.Maps
attribute [local go_sem] Oper.semAt_some
/-- A link in memory: S its blocks. -/
def LkA (w : World) (S : Nat → Prop) (g : Nat) (s : Lk) : Prop :=
  ∃ b, w.heap[g]? = some (.cells (cellsLk s b) 59 (0, 0)) ∧ Mp w Try.prog 35 b s.outs.length ekW (outsV s) ∧ g ≠ b ∧ ∀ k, S k ↔ k = g ∨ k = b
theorem LkA.lt {w : World} {S : Nat → Prop} {g : Nat} {s : Lk} (h : LkA w S g s) : ∀ k, S k → k < w.heap.size := by
  obtain ⟨b, hg, hm, _, hS⟩ := h
  intro k hk
  rcases (hS k).1 hk with rfl | rfl
  · exact obj_lt hg
  · exact hm.lt
theorem LkA.keep {w w' : World} {S : Nat → Prop} {g : Nat} {s : Lk} (h : LkA w S g s) (hk : ∀ k, S k → w'.heap[k]? = w.heap[k]?) : LkA w' S g s := by
  obtain ⟨b, hg, hm, hne, hS⟩ := h
  exact ⟨b, (hk g ((hS g).2 (.inl rfl))).trans hg, hm.keep (hk b ((hS b).2 (.inr rfl))), hne, hS⟩
theorem LkA.below {w w' : World} {S : Nat → Prop} {g : Nat} {s : Lk} (h : LkA w S g s) (hb : Below w.heap.size w w') : LkA w' S g s := h.keep fun k hk => hb.block k (h.lt k hk)
theorem w32_key {n : Nat} (h : n < 4294967296) : ∃ kl, keyOf Try.prog 35 (ekW n) = some kl := ⟨_, Maps.keyOf_int_mk Try.underlying35 (u32_wf h)⟩
def nodeOk (a : Int) : Prop := 0 ≤ a ∧ a < 16
set_option maxHeartbeats 1000000 in
theorem isNode_yes (gb : Nat) (a b : Int) (w : World) (h : w.heap[gb]? = some (.cells #[.int .i64 a, .int .i64 b] 3 (0, 0))) (ha : nodeOk a) (hb : nodeOk b) :
    Calls Try.prog 22 #[.slice (some ⟨gb, 0, none⟩) 2 2] w fun e w' => e = .returned (.bool true) ∧ w = w' := by
  have q0 : w.cell? ⟨gb, 0, none⟩ = some (.int .i64 a) := cell_row h 0
  have q1 : w.cell? ⟨gb, 1, none⟩ = some (.int .i64 b) := cell_row h 1
  obtain ⟨a0, a1⟩ := ha
  obtain ⟨b0, b1⟩ := hb
  clear h
  have d0 : decide (a < 0) = false := by simp; omega
  have d1 : decide (a ≥ 16) = false := by simp; omega
  have d2 : decide (b < 0) = false := by simp; omega
  have d3 : decide (b ≥ 16) = false := by simp; omega
  go_enter Try.func22, Try.ntmps22
  go_wp2
  go_loop [7] (fun i => ∃ k : Nat, k ≤ 2 ∧ i = .int .i64 k) (fun i => 2 - (intOf i).toNat)
  case atStart => exact ⟨0, by omega, rfl⟩
  case round =>
    obtain ⟨k, hk, rfl⟩ := hrel
    obtain rfl | rfl | rfl : k = 0 ∨ k = 1 ∨ k = 2 := by omega
    · go_wp2
      go_round
      case rel => exact ⟨1, by omega, by go_num⟩
      case measure => simp [intOf]
    · go_wp2
      go_round
      case rel => exact ⟨2, by omega, by go_num⟩
      case measure => simp [intOf]
    · go_wp2
      go_ret
      exact ⟨rfl, rfl⟩
end Go.Proofs.Ytbmlenffcmmkbaa
