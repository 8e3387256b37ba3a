/-
  What the reference of ballot proposes and decides; lists of votes with short values. Conditions: lists are at most as long as Go allows.
-/
import Derived.Test.YtcfaeddjohpohaaBalL
import Derived.BigQuiet
import Derived.Deep.QuietTactic
namespace Ros
open Go Go.RowKit
theorem find_take {l : List Vt} {k : Nat} (hk : k < l.length) (hn : ∀ j (hj : j < k), majB l l[j] = false) (h : majB l l[k] = true) : l.find? (majB l) = some l[k] := by
  rw [List.find?_eq_some_iff_getElem]
  exact ⟨h, k, hk, rfl, fun j hj => by simpa using hn j hj⟩
def cntTo (l : List Vt) (b : Nat) (s : ByteArray) (k : Nat) : Nat := cntV b s (l.take k)
theorem cntTo_succ {l : List Vt} {k : Nat} (hk : k < l.length) (b : Nat) (s : ByteArray) : cntTo l b s (k + 1) = cntTo l b s k + if l[k].b = b ∧ l[k].s = s then 1 else 0 := by
  unfold cntTo; rw [List.take_succ_eq_append_getElem hk, cntV_snoc]
end Ros
namespace Go.Proofs.Ytcfaeddjohpohaa
open Go.RowKit Go.Shelf Ros
attribute [local go_sem] Oper.semAt_some
set_option linter.unusedVariables false

set_option maxRecDepth 100000 in
set_option maxHeartbeats 1000000 in
theorem refproposal_no (n : Int) (A : Option Addr) (c : Nat) (l : List Vt) (own : ByteArray) (w : World) (hl : l.length ≤ 4611686018427387903)
    (hn1 : -9223372036854775808 ≤ n) (hn2 : n ≤ 9223372036854775807) (hg : ¬ (1 ≤ n ∧ n ≤ 16 ∧ (l.length : Int) ≤ n ∧ n < 2 * (l.length : Int))) :
    Calls Try.prog 23 #[.int .i64 n, .slice A l.length c, .string own] w fun e w' => e = .returned (.tuple #[.string ⟨#[]⟩, .int .i64 81]) ∧ Below w.heap.size w w' := by
  by_cases h1 : n < 1
  · go_enter Try.func23, Try.ntmps23
    go_wp2
    go_ret2
    exact ⟨rfl, Below.refl _ _⟩
  by_cases h2 : 16 < n
  · go_enter Try.func23, Try.ntmps23
    go_wp2
    go_ret2
    exact ⟨rfl, Below.refl _ _⟩
  by_cases h3 : n < (l.length : Int)
  · go_enter Try.func23, Try.ntmps23
    go_wp2
    go_ret2
    exact ⟨rfl, Below.refl _ _⟩
  by_cases h4 : 2 * (l.length : Int) ≤ n
  · go_enter Try.func23, Try.ntmps23
    go_wp2
    go_ret2
    exact ⟨rfl, Below.refl _ _⟩
  exact absurd (by omega) hg

set_option maxRecDepth 100000 in
set_option maxHeartbeats 1000000 in
theorem refproposal_in (n : Int) (A : Option Addr) (c : Nat) (l : List Vt) (own : ByteArray) (w : World) (ha : ArgAt w 3 A l.length (cellsVs l)) (hok : ∀ x ∈ l, x.ok) (ho : own.size ≤ 140737488355328)
    (h1 : ¬ n < 1) (h2 : ¬ 16 < n) (h3 : ¬ n < (l.length : Int)) (h4 : ¬ 2 * (l.length : Int) ≤ n) :
    Calls Try.prog 23 #[.int .i64 n, .slice A l.length c, .string own] w fun e w' => e = .returned (.tuple #[.string (mprop n l own).1, .int .i64 (mprop n l own).2]) ∧ Below w.heap.size w w' := by
  have HG : 1 ≤ n ∧ n ≤ 16 ∧ (l.length : Int) ≤ n ∧ n < 2 * (l.length : Int) := by omega
  have HA := Lib.hid ha
  clear ha
  by_cases h5 : own.size ≤ 4000
  · have HY := Lib.hid (fun h : l.all rightB = true => mprop_yes (own := own) HG (And.intro h h5))
    have HN := Lib.hid (fun h : l.all rightB = false => mprop_bad (own := own) HG (fun e : l.all rightB = true ∧ own.size ≤ 4000 => by rw [h] at e; cases e.1))
    clear HG
    go_enter Try.func23, Try.ntmps23
    go_wp2
    go_loopw [8, 9, 10] (fun b o i wr => ∃ k : Nat, k ≤ l.length ∧ i = .int .i64 k ∧ b = .int .u64 ((bestV ⟨0, 0, own⟩ (l.take k)).b : Int) ∧ o = .string (bestV ⟨0, 0, own⟩ (l.take k)).s ∧ (l.take k).all rightB = true ∧ Below w.heap.size w wr) (fun _ _ i _ => l.length - (intOf i).toNat)
    case atStart => exact ⟨0, by omega, rfl, rfl, rfl, by simp, Below.refl _ _⟩
    case round =>
      obtain ⟨k, hk, rfl, rfl, rfl, hR, hB⟩ := hrel
      by_cases hlt : k < l.length
      · obtain ⟨a, rfl, hab, p0, p1, p2⟩ := vote_at (HA.out.below hB) k hlt
        have hx : l[k].ok := hok _ (List.getElem_mem hlt)
        have hy : (bestV ⟨0, 0, own⟩ (l.take k)).ok := bestV_ok ⟨by show 0 < _; omega, by show 0 < _; omega, ho⟩ fun y hy => hok y (List.mem_of_mem_take hy)
        have HV := Lib.hid (fun (W : World) (hb : Below w.heap.size w W) => show W.cell? (a.add (k * 3)) = some (.int .u64 (l[k].p : Int)) ∧ W.cell? ⟨(a.add (k * 3)).block, (a.add (k * 3)).off + 1, none⟩ = some (.int .u64 (l[k].b : Int)) ∧ W.cell? ⟨(a.add (k * 3)).block, (a.add (k * 3)).off + 2, none⟩ = some (.string l[k].s) from by
          obtain ⟨a', e, _, h⟩ := vote_at (HA.out.below hb) k hlt
          cases e
          exact h)
        have HS := Lib.hid (bestV_snoc ⟨0, 0, own⟩ (l.take k) l[k])
        rw [← List.take_succ_eq_append_getElem hlt] at HS
        have HT := Lib.hid (show (l.take (k + 1)).all rightB = ((l.take k).all rightB && rightB l[k]) by rw [List.take_succ_eq_append_getElem hlt, all_snoc])
        have HF := Lib.hid (fun h : rightB l[k] = false => all_pre rightB (show l = l.take k ++ l[k] :: l.drop (k + 1) by rw [List.getElem_cons_drop, List.take_append_drop]) h)
        have HRR := Lib.hid (fun w => refright_any l[k] w hx)
        have HR' := Lib.hid hR
        have HB := Lib.hid hB
        clear hR hB
        obtain ⟨hx1, hx2, hx3⟩ := hx
        obtain ⟨hy1, hy2, hy3⟩ := hy
        generalize bestV ⟨0, 0, own⟩ (l.take k) = y at *
        generalize l[k] = x at *
        cases hr : rightB x
        · rw [hr] at HRR
          have HE := Lib.hid (HN.out (HF.out hr))
          clear hr
          go_wp2_with (go_at_call 17; refine (HRR.out _).mono ?_; rintro e w1 ⟨rfl, b1⟩)
          go_ret2
          exact ⟨by rw [HE.out]; rfl, bt' HB.out b1⟩
        · rw [hr] at HRR HT
          clear hr
          by_cases hlt2 : y.b < x.b
          · rw [if_pos hlt2] at HS
            go_wp2_with (go_at_call 17; refine (HRR.out _).mono ?_; rintro e w1 ⟨rfl, b1⟩; obtain ⟨q0, q1, q2⟩ := HV.out w1 (bt' HB.out b1))
            go_roundw
            case rel => exact ⟨k + 1, by omega, by go_num, by rw [HS.out], by rw [HS.out], by rw [HT.out, HR'.out]; rfl, bt' HB.out b1⟩
            case measure => simp [intOf]; omega
          · rw [if_neg hlt2] at HS
            go_wp2_with (go_at_call 17; refine (HRR.out _).mono ?_; rintro e w1 ⟨rfl, b1⟩; obtain ⟨q0, q1, q2⟩ := HV.out w1 (bt' HB.out b1))
            go_roundw
            case rel => exact ⟨k + 1, by omega, by go_num, by rw [HS.out], by rw [HS.out], by rw [HT.out, HR'.out]; rfl, bt' HB.out b1⟩
            case measure => simp [intOf]; omega
      · obtain rfl : k = l.length := by omega
        rw [List.take_of_length_le (Nat.le_refl _)] at hR
        have HE := Lib.hid (HY.out hR)
        clear hR
        rw [List.take_of_length_le (Nat.le_refl _)]
        go_wp2
        go_ret2
        exact ⟨by rw [HE.out]; rfl, hB⟩
  · rw [mprop_bad HG (fun h => h5 h.2)]
    go_enter Try.func23, Try.ntmps23
    go_wp2
    go_ret2
    exact ⟨rfl, Below.refl _ _⟩
theorem refproposal_any (n : Int) (A : Option Addr) (c : Nat) (l : List Vt) (own : ByteArray) (w : World) (ha : ArgAt w 3 A l.length (cellsVs l)) (hl : l.length ≤ 4611686018427387903) (hok : ∀ x ∈ l, x.ok) (ho : own.size ≤ 140737488355328)
    (hn1 : -9223372036854775808 ≤ n) (hn2 : n ≤ 9223372036854775807) :
    Calls Try.prog 23 #[.int .i64 n, .slice A l.length c, .string own] w fun e w' => e = .returned (.tuple #[.string (mprop n l own).1, .int .i64 (mprop n l own).2]) ∧ Below w.heap.size w w' := by
  by_cases HG : 1 ≤ n ∧ n ≤ 16 ∧ (l.length : Int) ≤ n ∧ n < 2 * (l.length : Int)
  · exact refproposal_in n A c l own w ha hok ho (by omega) (by omega) (by omega) (by omega)
  · rw [mprop_group HG]; exact refproposal_no n A c l own w hl hn1 hn2 HG
end Go.Proofs.Ytcfaeddjohpohaa
