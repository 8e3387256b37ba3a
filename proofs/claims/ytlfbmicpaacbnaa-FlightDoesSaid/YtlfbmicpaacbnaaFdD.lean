/-
  Two lists of notes that are the same. Conditions: at most a thousand notes lie there.
-/
import Derived.Test.YtlfbmicpaacbnaaFdB
import Derived.Deep.QuietTactic
import Derived.BigQuiet
namespace Go.Proofs.Ytlfbmicpaacbnaa
open Go.RowKit Go.Shelf Ros
attribute [local go_sem] Oper.semAt_some
theorem note_neq (x : Nt) (w : World) : (binOp .neq 35 (noteV x) (noteV x)).run Try.prog w = .ok (.bool false) w := by
  unfold noteV
  go_simp
theorem row_note {W : World} {A : Option Addr} {n c : Nat} {l : List Nt} {t : TypeId} (h : Row W t 3 (.slice A n c) n (cellsNs l)) (hn : n = l.length) (k : Nat) (hk : k < l.length) :
    ∃ gb, A = some ⟨gb, 0, none⟩ ∧ W.cell? ⟨gb, k * 3, none⟩ = some (.int .u32 (l[k].id : Int)) ∧ W.cell? ⟨gb, k * 3 + 1, none⟩ = some (.int .i64 l[k].to) ∧ W.cell? ⟨gb, k * 3 + 2, none⟩ = some (.string l[k].s) := by
  obtain ⟨gb, cap, hv, _, _, _, hcs, _⟩ := h.some_ (by omega)
  injection hv with hA _ _
  refine ⟨gb, hA, ?_, ?_, ?_⟩
  · exact hcs _ _ (by rw [← Nat.add_zero (k * 3), cellsNs_at l k 0 hk (by omega)]; rfl)
  · exact hcs _ _ (by rw [cellsNs_at l k 1 hk (by omega)]; rfl)
  · exact hcs _ _ (by rw [cellsNs_at l k 2 hk (by omega)]; rfl)
set_option maxRecDepth 100000 in
set_option maxHeartbeats 1600000 in
theorem nsame_any (A B : Option Addr) (ca cb : Nat) (l : List Nt) (w : World) (ha : Row w 35 3 (.slice A l.length ca) l.length (cellsNs l)) (hb : Row w 35 3 (.slice B l.length cb) l.length (cellsNs l)) (hl : l.length ≤ 1000) :
    Calls Try.prog 18 #[.slice A l.length ca, .slice B l.length cb] w fun e w' => e = .returned (.bool true) ∧ Below w.heap.size w w' := by
  have HA := Lib.hid ha
  have HB := Lib.hid hb
  clear ha hb
  go_enter Try.func18, Try.ntmps18
  go_wp2
  go_loopw [5] (fun i wr => ∃ k : Nat, k ≤ l.length ∧ i = .int .i64 k ∧ Below w.heap.size w wr) (fun i _ => l.length - (intOf i).toNat)
  case atStart => exact ⟨0, by omega, rfl, Below.refl _ _⟩
  case round =>
    obtain ⟨k, hk, rfl, hBl⟩ := hrel
    have HBl := Lib.hid hBl
    by_cases hlt : k < l.length
    · obtain ⟨ga, rfl, p0, p1, p2⟩ := row_note (HA.out.below hBl (Nat.le_refl _)) rfl k hlt
      obtain ⟨gb, rfl, q0, q1, q2⟩ := row_note (HB.out.below hBl (Nat.le_refl _)) rfl k hlt
      clear hBl
      have hq := note_neq l[k]
      generalize l[k] = x at *
      unfold noteV at hq
      go_wp2
      go_quiet (fail)
      go_wp2
      go_roundw
      case rel => exact ⟨k + 1, by omega, by go_num, by repeat first | exact HBl.out | apply Below.drew | apply below_drewN'⟩
      case measure => simp [intOf]; omega
    · have hke : k = l.length := by omega
      subst hke
      clear hBl
      go_wp2
      go_ret
      exact ⟨rfl, HBl.out⟩
end Go.Proofs.Ytlfbmicpaacbnaa
