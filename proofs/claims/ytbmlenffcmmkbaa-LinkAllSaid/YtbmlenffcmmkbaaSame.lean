/-
  Lists of strings: are two the same? Conditions: none.
-/
import Derived.Test.YtbmlenffcmmkbaaArg
import Derived.Test.YtbmlenffcmmkbaaCrcP
import Derived.Test.YtbmlenffcmmkbaaChecked
import Derived.BigQuiet
import Derived.Deep.QuietTactic
import Derived.Deep.DrawnRows
namespace Ros
open Go Go.RowKit
theorem take_same_succ' {α : Type} {l m : List α} {k : Nat} (h : l.take k = m.take k) (hl : k < l.length) (hm : k < m.length) (he : l[k] = m[k]) : l.take (k + 1) = m.take (k + 1) := by
  rw [List.take_succ_eq_append_getElem hl, List.take_succ_eq_append_getElem hm, h, he]
theorem take_same_all' {α : Type} {l m : List α} {k : Nat} (h : l.take k = m.take k) (hl : k = l.length) (hm : k = m.length) : l = m := by
  rw [List.take_of_length_le (by omega), List.take_of_length_le (by omega)] at h; exact h
theorem below_dN {B : Nat} {a w : World} (h : Below B a w) (n : Nat) : Below B a (w.drewN n) := ⟨h.os, h.tape, h.output, h.size, h.block⟩
end Ros
namespace Go.Proofs.Ytbmlenffcmmkbaa
open Go.RowKit Go.Shelf Ros
attribute [local go_sem] Oper.semAt_some
attribute [local go_sem ↓] Go.wp_at_zero Go.wp_at_succ

set_option maxRecDepth 100000 in
set_option maxHeartbeats 1000000 in
theorem strSame_any (A B : Option Addr) (ca cb : Nat) (l m : List ByteArray) (w : World) (ha : ArgAt w 1 A l.length (l.map Value.string)) (hb : ArgAt w 1 B m.length (m.map Value.string)) (hl : l.length ≤ maxLen) (hm : m.length ≤ maxLen) :
    Calls Try.prog 10 #[.slice A l.length ca, .slice B m.length cb] w fun e w' => e = .returned (.bool (decide (l = m))) ∧ Below w.heap.size w w' := by
  have HA := Lib.hid ha
  have HB := Lib.hid hb
  unfold maxLen at hl hm
  clear ha hb
  by_cases hlm : l.length = m.length
  · have hbq : ((l.length : Int) != (m.length : Int)) = false := by rw [hlm]; simp
    have HLM := Lib.hid hlm
    clear hlm
    go_enter Try.func10, Try.ntmps10
    go_wp2
    go_loopw [5] (fun i wr => ∃ k : Nat, k ≤ l.length ∧ i = .int .i64 k ∧ l.take k = m.take k ∧ Below w.heap.size w wr) (fun i _ => l.length - (intOf i).toNat)
    case atStart => exact ⟨0, by omega, rfl, by simp, Below.refl _ _⟩
    case round =>
      obtain ⟨k, hk, rfl, hT, hBl⟩ := hrel
      have HT := Lib.hid hT
      have HBl := Lib.hid hBl
      clear hT hBl
      by_cases hlt : k < l.length
      · have hlt2 : k < m.length := by have := HLM.out; omega
        obtain ⟨a1, hl1, rfl, _, p0⟩ := (HA.out.below HBl.out).one k hlt
        obtain ⟨b1, hm1, rfl, _, q0⟩ := (HB.out.below HBl.out).one k hlt2
        by_cases he : l[k] = m[k]
        · have HS := Lib.hid (take_same_succ' HT.out hl1 hm1 he)
          rw [← he] at q0
          clear he
          generalize l[k] = x at *
          go_wp2
          go_quiet (fail)
          go_wp2
          go_roundw
          case rel => exact ⟨k + 1, by omega, by go_num, HS.out, by repeat first | exact HBl.out | apply Below.drew | apply below_dN⟩
          case measure => simp [intOf]; omega
        · have HN := Lib.hid (show decide (l = m) = false from by rw [decide_eq_false_iff_not]; intro e; subst e; exact he rfl)
          have hq : (l[k].toList == m[k].toList) = false := by rw [beq_bl, decide_eq_false_iff_not]; exact he
          clear he
          generalize l[k] = x at *
          generalize m[k] = y at *
          go_wp2
          go_quiet (fail)
          go_wp2
          go_ret
          exact ⟨by rw [HN.out]; rfl, by repeat first | exact HBl.out | apply Below.drew | apply below_dN⟩
      · obtain rfl : k = l.length := by omega
        have HS := Lib.hid (take_same_all' HT.out rfl HLM.out)
        go_wp2
        go_ret
        exact ⟨by rw [HS.out]; simp, HBl.out⟩
  · have hbq : ((l.length : Int) != (m.length : Int)) = true := by rw [bne_iff_ne]; omega
    have HN := Lib.hid (show decide (l = m) = false from by rw [decide_eq_false_iff_not]; intro e; subst e; exact hlm rfl)
    go_enter Try.func10, Try.ntmps10
    go_wp2
    go_ret
    exact ⟨by rw [HN.out]; rfl, Below.refl _ _⟩
end Go.Proofs.Ytbmlenffcmmkbaa
