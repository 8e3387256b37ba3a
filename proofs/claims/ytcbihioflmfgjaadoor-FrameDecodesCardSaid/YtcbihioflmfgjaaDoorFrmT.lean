/-
  A frame that is cut to 4200 bytes of data; what the laws' walks use. Conditions: none.
-/
import Derived.Test.YtcbihioflmfgjaaDoorFrmS
namespace Ros
open Go Go.RowKit
def cutX (x : Fr) : Fr := { x with data := x.data.extract 0 (min x.data.size 4200) }
theorem cutX_size (x : Fr) : (cutX x).data.size ≤ 4200 := by
  show (x.data.extract 0 (min x.data.size 4200)).size ≤ 4200
  rw [ByteArray.size_extract]
  omega
theorem cutX_ok {x : Fr} (h : okF x) : okF (cutX x) := ⟨h.wire, h.kind, h.src, h.dst, h.life, h.seq, h.ack, h.hint, by have := cutX_size x; unfold maxLen; omega⟩
/-- The cells of a frame. -/
def cellsX (x : Fr) : Array Value := #[.int .i64 x.wire, .int .i64 x.kind, .int .i64 x.src, .int .i64 x.dst, .int .u32 (x.life : Int), .int .u32 (x.seq : Int), .int .u32 (x.ack : Int), .int .u32 (x.hint : Int), .string x.data]
theorem min_cases (n : Nat) : n < 4200 ∨ n = 4200 ∨ 4200 < n := by omega
end Ros
namespace Go.Proofs.YtcbihioflmfgjaaDoor
open Go.RowKit Go.Shelf Ros Go.Maps
attribute [local go_sem] Oper.semAt_some
set_option linter.unusedVariables false
set_option maxRecDepth 100000 in
set_option maxHeartbeats 2000000 in
theorem cutF_any (x : Fr) (w : World) : Calls Tryd.prog 12 #[frV x] w fun e w' => e = .returned (frV (cutX x)) ∧ Below w.heap.size w w' := by
  have hcd : (cutX x).data = x.data.extract 0 (min x.data.size 4200) := rfl
  unfold frV
  have e0 : (cutX x).wire = x.wire := rfl
  have e1 : (cutX x).kind = x.kind := rfl
  have e2 : (cutX x).src = x.src := rfl
  have e3 : (cutX x).dst = x.dst := rfl
  have e4 : (cutX x).life = x.life := rfl
  have e5 : (cutX x).seq = x.seq := rfl
  have e6 : (cutX x).ack = x.ack := rfl
  have e7 : (cutX x).hint = x.hint := rfl
  rw [e0, e1, e2, e3, e4, e5, e6, e7]
  clear e0 e1 e2 e3 e4 e5 e6 e7
  rcases min_cases x.data.size with h | h | h
  · have HSL : ∀ W, (Instr.slice 9 (.string x.data) none (some (.int .i64 (x.data.size : Int))) none).run Tryd.prog W = .ok (.string (cutX x).data) W := fun W => by
      rw [hcd, Nat.min_eq_left (by omega)]
      exact slF_h (P := Tryd.prog) Tryd.underlying9 x.data x.data.size (Nat.le_refl _) _ rfl W
    generalize (cutX x).data = d at *
    have q1 : ((x.data.size : Int)) < 4200 := by omega
    clear h hcd
    go_enter Tryd.func12, Tryd.ntmps12
    go_wp2
    refine bodyPost_ret ?_ rfl ⟨rfl, ?_⟩
    rotate_left
    · exact ((Below.refl _ w).alloc (Nat.le_refl _) _).alloc (by simp) _
    · rw [results_cellG rfl]
      go_simp
  · rw [hcd, Nat.min_eq_right (by omega)]
    have q1 : ((x.data.size : Int)) = 4200 := by omega
    clear h hcd
    go_enter Tryd.func12, Tryd.ntmps12
    go_wp2
    refine bodyPost_ret ?_ rfl ⟨rfl, ?_⟩
    rotate_left
    · exact ((Below.refl _ w).alloc (Nat.le_refl _) _).alloc (by simp) _
    · rw [results_cellG rfl]
      go_simp
  · rw [hcd, Nat.min_eq_right (by omega)]
    have q1 : (4200 : Int) < ((x.data.size : Int)) := by omega
    clear h hcd
    go_enter Tryd.func12, Tryd.ntmps12
    go_wp2
    refine bodyPost_ret ?_ rfl ⟨rfl, ?_⟩
    rotate_left
    · exact ((Below.refl _ w).alloc (Nat.le_refl _) _).alloc (by simp) _
    · rw [results_cellG rfl]
      go_simp
end Go.Proofs.YtcbihioflmfgjaaDoor
