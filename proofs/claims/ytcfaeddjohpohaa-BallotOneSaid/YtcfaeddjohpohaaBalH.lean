/-
  The next ballot. Conditions: none but the numbers' own.
-/
import Derived.Test.YtcfaeddjohpohaaBalB
import Derived.Laws.BitsAllLaws
import Derived.Laws.BitsLemmas
namespace Ros
open Go Go.RowKit
theorem or16 (q d : Nat) (hd : d < 16) : 16 * q ||| d = 16 * q + d := by
  have := Nat.two_pow_add_eq_or_of_lt (i := 4) (b := d) (by simpa using hd) q
  simpa using this.symm
theorem next_or (b : Nat) (node : Int) (hb : b ≤ 1152921504606846976) (h0 : 0 ≤ node) (h1 : node < 16) : bits .or .u64 ((b : Int) / 16 * 16) node = ((b / 16 * 16 + node.toNat : Nat) : Int) := by
  obtain ⟨d, rfl⟩ := Int.eq_ofNat_of_zero_le h0
  rw [show (b : Int) / 16 * 16 = ((b / 16 * 16 : Nat) : Int) by omega, u64_or_nat _ _ (by omega) (by omega), Nat.mul_comm, or16 _ _ (by omega)]
  simp
theorem mnext_bad {b : Nat} {node : Int} (h : node < 0 ∨ 16 ≤ node ∨ 1152921504606846976 < b) : mnext b node = (0, 2) := by unfold mnext; rw [if_pos h]
theorem mnext_yes {b : Nat} {node : Int} (h : ¬ (node < 0 ∨ 16 ≤ node ∨ 1152921504606846976 < b)) : mnext b node = ((if b / 16 * 16 + node.toNat ≤ b then b / 16 * 16 + node.toNat + 16 else b / 16 * 16 + node.toNat), 0) := by unfold mnext; rw [if_neg h]
theorem mnext_law {b : Nat} {node : Int} (h : ¬ (node < 0 ∨ 16 ≤ node ∨ 1152921504606846976 < b)) : b < (mnext b node).1 ∧ (mnext b node).1 ≤ b + 16 ∧ (mnext b node).1 % 16 = node.toNat := by
  rw [mnext_yes h]
  dsimp only
  split <;> omega
/-- The first number from m on with this rest. -/
theorem next_first {b m : Nat} {node : Int} (h : ¬ (node < 0 ∨ 16 ≤ node ∨ 1152921504606846976 < b)) (hm : b < m) (hr : m % 16 = node.toNat) (hn : ∀ j, b < j → j < m → j % 16 ≠ node.toNat) : m = (mnext b node).1 := by
  obtain ⟨h1, h2, h3⟩ := mnext_law h
  have h4 : ¬ (mnext b node).1 < m := fun e => hn _ h1 e h3
  omega
end Ros
namespace Go.Proofs.Ytcfaeddjohpohaa
open Go.RowKit Go.Shelf Ros
attribute [local go_sem] Oper.semAt_some
set_option linter.unusedVariables false

set_option maxHeartbeats 1000000 in
theorem next_any (b : Nat) (node : Int) (w : World) (hb : b < 18446744073709551616) (hn1 : -9223372036854775808 ≤ node) (hn2 : node ≤ 9223372036854775807) :
    Calls Try.prog 20 #[.int .u64 (b : Int), .int .i64 node] w fun e w' => e = .returned (.tuple #[.int .u64 ((mnext b node).1 : Int), .int .i64 (mnext b node).2]) ∧ w = w' := by
  by_cases h : node < 0 ∨ 16 ≤ node ∨ 1152921504606846976 < b
  · rw [mnext_bad h]
    by_cases h1 : node < 0
    · go_enter Try.func20, Try.ntmps20
      go_wp2
      go_ret2
      exact ⟨rfl, rfl⟩
    by_cases h2 : 16 ≤ node
    · go_enter Try.func20, Try.ntmps20
      go_wp2
      go_ret2
      exact ⟨rfl, rfl⟩
    have h3 : 1152921504606846976 < (b : Int) := by omega
    go_enter Try.func20, Try.ntmps20
    go_wp2
    go_ret2
    exact ⟨rfl, rfl⟩
  · rw [mnext_yes h]
    have h1 : ¬ node < 0 := by omega
    have h2 : ¬ 16 ≤ node := by omega
    have h3 : ¬ 1152921504606846976 < (b : Int) := by omega
    have hor := next_or b node (by omega) (by omega) (by omega)
    have h0 : 0 ≤ node := by omega
    have h4 : node < 16 := by omega
    have HB := Lib.hid (show b / 16 * 16 + node.toNat ≤ b + 16 ∧ b ≤ 1152921504606846976 by omega)
    generalize b / 16 * 16 + node.toNat = m at *
    clear h
    have hm1 := HB.out.1
    have hm2 := HB.out.2
    by_cases h5 : m ≤ b
    · go_enter Try.func20, Try.ntmps20
      go_wp2
      go_ret2
      exact ⟨by first | rfl | (rw [if_pos h5]; rfl), rfl⟩
    · go_enter Try.func20, Try.ntmps20
      go_wp2
      go_ret2
      exact ⟨by first | rfl | (rw [if_neg h5]; rfl), rfl⟩

set_option maxHeartbeats 1000000 in
theorem refnext_any (b : Nat) (node : Int) (w : World) (hb : b < 18446744073709551616) (hn1 : -9223372036854775808 ≤ node) (hn2 : node ≤ 9223372036854775807) :
    Calls Try.prog 21 #[.int .u64 (b : Int), .int .i64 node] w fun e w' => e = .returned (.tuple #[.int .u64 ((mnext b node).1 : Int), .int .i64 (mnext b node).2]) ∧ w = w' := by
  by_cases h : node < 0 ∨ 16 ≤ node ∨ 1152921504606846976 < b
  · rw [mnext_bad h]
    by_cases h1 : node < 0
    · go_enter Try.func21, Try.ntmps21
      go_wp2
      go_ret2
      exact ⟨rfl, rfl⟩
    by_cases h2 : 16 ≤ node
    · go_enter Try.func21, Try.ntmps21
      go_wp2
      go_ret2
      exact ⟨rfl, rfl⟩
    have h3 : 1152921504606846976 < (b : Int) := by omega
    go_enter Try.func21, Try.ntmps21
    go_wp2
    go_ret2
    exact ⟨rfl, rfl⟩
  · have HL := Lib.hid (mnext_law h)
    have HF := Lib.hid (fun m hm hr hn => next_first (b := b) (m := m) h hm hr hn)
    have HE := Lib.hid (show (mnext b node).2 = 0 by rw [mnext_yes h])
    have h1 : ¬ node < 0 := by omega
    have h2 : ¬ 16 ≤ node := by omega
    have h3 : ¬ 1152921504606846976 < (b : Int) := by omega
    have h4 : b ≤ 1152921504606846976 := by omega
    have h0 : 0 ≤ node := by omega
    have h5 : node < 16 := by omega
    clear h
    rw [HE.out]
    generalize (mnext b node).1 = M at *
    go_enter Try.func21, Try.ntmps21
    go_wp2
    go_loop [6] (fun v => ∃ m : Nat, b < m ∧ m ≤ M ∧ v = .int .u64 (m : Int) ∧ ∀ j, b < j → j < m → j % 16 ≠ node.toNat) (fun v => M - (intOf v).toNat)
    case atStart => exact ⟨b + 1, by omega, HL.out.1, by go_num, fun j h1 h2 => by omega⟩
    case round =>
      obtain ⟨m, hm1, hm2, rfl, hN⟩ := hrel
      have HN := Lib.hid hN
      clear hN
      have hM := HL.out.2.1
      by_cases hr : m % 16 = node.toNat
      · have hq : ((m : Int) % 16 != node) = false := by simp; omega
        have HM := Lib.hid (HF.out m hm1 hr HN.out)
        go_wp2
        go_ret2
        exact ⟨by rw [HM.out]; rfl, rfl⟩
      · have hq : ((m : Int) % 16 != node) = true := by simp; omega
        have hlt : m < M := by
          rcases Nat.lt_or_ge m M with h | h
          · exact h
          · have : m = M := by omega
            exact absurd (this ▸ HL.out.2.2) hr
        go_wp2
        go_round
        case rel => exact ⟨m + 1, by omega, by omega, by go_num, fun j h1 h2 => by
          by_cases e : j = m
          · rw [e]; exact hr
          · exact HN.out j h1 (by omega)⟩
        case measure => simp [intOf]; omega
end Go.Proofs.Ytcfaeddjohpohaa
