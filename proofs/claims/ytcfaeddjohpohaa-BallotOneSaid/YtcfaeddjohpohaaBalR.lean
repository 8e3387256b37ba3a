/-
  What the reference of ballot decides; votes with short values; BallotProposals, walked. Conditions: none but the arguments' own.
-/
import Derived.Test.YtcfaeddjohpohaaBalQ
import Derived.Test.YtcfaeddjohpohaaBalO
namespace Ros
open Go Go.RowKit
def cnt0 (l : List Vt) (x : Vt) (k : Nat) : Nat := if 0 < x.b then cntTo l x.b x.s k else 0
theorem cnt0_zero (l : List Vt) (x : Vt) : cnt0 l x 0 = 0 := by unfold cnt0 cntTo; split <;> simp [cntV]
theorem cnt0_le (l : List Vt) (x : Vt) (k : Nat) : cnt0 l x k ≤ k := by
  unfold cnt0 cntTo; split
  · exact Nat.le_trans (cntV_le _ _ _) (by rw [List.length_take]; omega)
  · omega
theorem cnt0_hit {l : List Vt} {x : Vt} {k : Nat} (hk : k < l.length) (h0 : 0 < l[k].b) (h1 : l[k].b = x.b) (h2 : l[k].s = x.s) : cnt0 l x (k + 1) = cnt0 l x k + 1 := by
  unfold cnt0; rw [if_pos (by omega), if_pos (by omega), cntTo_succ hk, if_pos ⟨h1, h2⟩]
theorem cnt0_miss {l : List Vt} {x : Vt} {k : Nat} (hk : k < l.length) (h : l[k].b = 0 ∨ l[k].b ≠ x.b ∨ l[k].s ≠ x.s) : cnt0 l x (k + 1) = cnt0 l x k := by
  unfold cnt0
  by_cases hx : 0 < x.b
  · rw [if_pos hx, if_pos hx, cntTo_succ hk, if_neg (by rintro ⟨e1, e2⟩; rcases h with h | h | h; · omega
                                                        · exact h e1
                                                        · exact h e2)]; rfl
  · rw [if_neg hx, if_neg hx]
theorem cnt0_maj {l : List Vt} {x : Vt} : majB l x = decide (l.length < 2 * cnt0 l x l.length) := by
  rw [Bool.eq_iff_iff, majB_iff, decide_eq_true_iff]
  unfold cnt0 cntTo
  rw [List.take_of_length_le (Nat.le_refl _)]
  by_cases hx : 0 < x.b
  · rw [if_pos hx]; exact ⟨fun h => h.2, fun h => ⟨hx, h⟩⟩
  · rw [if_neg hx]; exact ⟨fun h => absurd h.1 hx, fun h => by omega⟩
theorem mdec_at {l : List Vt} {k : Nat} (h1 : 1 ≤ l.length) (h2 : l.length ≤ 16) (hr : l.all rightB = true) (hk : k < l.length) (h : majB l l[k] = true) : mdec l = ((l[k].s, true), 0) := mdec_maj h1 h2 hr (List.getElem_mem hk) h
def shortV (x : Vt) : Vt := ⟨x.p, x.b, cutV 4100 x.s⟩
def someL (l : List Vt) : List Vt := (l.take 20).map shortV
end Ros
namespace Go.Proofs.Ytcfaeddjohpohaa
open Go.RowKit Go.Shelf Ros
attribute [local go_sem] Oper.semAt_some
set_option linter.unusedVariables false

set_option maxRecDepth 100000 in
set_option maxHeartbeats 4000000 in
theorem refdecided_in (A : Option Addr) (c : Nat) (l : List Vt) (w : World) (ha : ArgAt w 3 A l.length (cellsVs l)) (h1 : 1 ≤ l.length) (h2 : l.length ≤ 16) (hok : ∀ x ∈ l, x.ok) :
    Calls Try.prog 24 #[.slice A l.length c] w fun e w' => e = .returned (.tuple #[.string (mdec l).1.1, .bool (mdec l).1.2, .int .i64 (mdec l).2]) ∧ Below w.heap.size w w' := by
  have HA := Lib.hid ha
  clear ha
  go_enter Try.func24, Try.ntmps24
  go_wp2
  go_loopw [5] (fun i wr => ∃ k : Nat, k ≤ l.length ∧ i = .int .i64 k ∧ (l.take k).all rightB = true ∧ Below w.heap.size w wr) (fun i _ => l.length - (intOf i).toNat)
  case atStart => exact ⟨0, by omega, rfl, by simp, Below.refl _ _⟩
  case round =>
    obtain ⟨k, hk, rfl, hR, hB⟩ := hrel
    by_cases hlt : k < l.length
    · obtain ⟨a, rfl, hab, p0, p1, p2⟩ := vote_at (HA.out.below hB) k hlt
      have hx : l[k].ok := hok _ (List.getElem_mem hlt)
      have HT := Lib.hid (show (l.take (k + 1)).all rightB = ((l.take k).all rightB && rightB l[k]) by rw [List.take_succ_eq_append_getElem hlt, all_snoc])
      have HF := Lib.hid (fun h : rightB l[k] = false => mdec_bad h1 h2 (all_pre rightB (show l = l.take k ++ l[k] :: l.drop (k + 1) by rw [List.getElem_cons_drop, List.take_append_drop]) h))
      have HRR := Lib.hid (fun w => refright_any l[k] w hx)
      have HR' := Lib.hid hR
      have HB := Lib.hid hB
      clear hR hB
      generalize l[k] = x at *
      cases hr : rightB x
      · rw [hr] at HRR
        have HE := Lib.hid (HF.out hr)
        clear hr
        go_wp2_with (go_at_call 17; refine (HRR.out _).mono ?_; rintro e w1 ⟨rfl, b1⟩)
        go_ret3
        exact ⟨by rw [HE.out]; rfl, bt' HB.out b1⟩
      · rw [hr] at HRR HT
        clear hr
        go_wp2_with (go_at_call 17; refine (HRR.out _).mono ?_; rintro e w1 ⟨rfl, b1⟩)
        go_roundw
        case rel => exact ⟨k + 1, by omega, by go_num, by rw [HT.out, HR'.out]; rfl, bt' HB.out b1⟩
        case measure => simp [intOf]; omega
    · obtain rfl : k = l.length := by omega
      rw [List.take_of_length_le (Nat.le_refl _)] at hR
      have HR := Lib.hid hR
      have HB0 := Lib.hid hB
      clear hR hB
      go_wp2
      go_loopw [7] (fun i wr => ∃ k : Nat, k ≤ l.length ∧ i = .int .i64 k ∧ (∀ j (hj : j < k) (hl : j < l.length), majB l l[j] = false) ∧ Below w.heap.size w wr) (fun i _ => l.length - (intOf i).toNat)
      case atStart => exact ⟨0, by omega, rfl, fun j hj => by omega, HB0.out⟩
      case round =>
        obtain ⟨i, hi, rfl, hN, hB⟩ := hrel
        have HN := Lib.hid hN
        have HB := Lib.hid hB
        clear hN hB
        by_cases hil : i < l.length
        · have HV := Lib.hid (fun (W : World) (hb : Below w.heap.size w W) (j : Nat) (hj : j < l.length) => vote_at (HA.out.below hb) j hj)
          have hxo := hok _ (List.getElem_mem hil)
          have HM := Lib.hid (fun h : majB l l[i] = true => mdec_at h1 h2 HR.out hil h)
          have HM2 := Lib.hid (fun h : majB l l[i] = false => show ∀ j (hj : j < i + 1) (hl : j < l.length), majB l l[j] = false from fun j hj hl => by
            by_cases e : j = i
            · subst e; exact h
            · exact HN.out j (by omega) hl)
          obtain ⟨x, hX⟩ : ∃ x, x = l[i] := ⟨_, rfl⟩
          rw [← hX] at HM HM2 hxo
          have HX := Lib.hid hX
          clear hX
          go_wp2
          go_loopw [8, 9] (fun q j wx => ∃ k : Nat, k ≤ l.length ∧ j = .int .i64 k ∧ q = .int .i64 (cnt0 l x k : Int) ∧ Below w.heap.size w wx) (fun _ j _ => l.length - (intOf j).toNat)
          case atStart => exact ⟨0, by omega, rfl, by rw [cnt0_zero]; rfl, HB.out⟩
          case round =>
            obtain ⟨k, hk, rfl, rfl, hB⟩ := hrel
            have HB := Lib.hid hB
            clear hB
            have hcl := cnt0_le l x k
            by_cases hkl : k < l.length
            · obtain ⟨a, hA, _, p0, p1, p2⟩ := HV.out _ HB.out i hil
              obtain ⟨b, hA', _, q0, q1, q2⟩ := HV.out _ HB.out k hkl
              subst hA
              cases hA'
              rw [← HX.out] at p0 p1 p2
              have HH := Lib.hid (fun h0 e1 e2 => cnt0_hit (x := x) hkl h0 e1 e2)
              have HI := Lib.hid (fun h => cnt0_miss (x := x) hkl h)
              have hyo := hok _ (List.getElem_mem hkl)
              obtain ⟨y1, y2, y3⟩ := hyo
              obtain ⟨x1, x2, x3⟩ := hxo
              generalize l[k] = y at *
              by_cases e0 : y.b = 0
              · have HC := Lib.hid (HI.out (.inl e0))
                have hz : decide (0 < (y.b : Int)) = false := by simp [e0]
                have hz2 : ¬ 0 < y.b := by omega
                clear e0
                go_wp2
                go_quiet (fail)
                go_wp2
                go_roundw
                case rel => exact ⟨k + 1, by omega, by go_num, by rw [HC.out], by repeat first | exact HB.out | apply Ros.below_dN''⟩
                case measure => simp [intOf]; omega
              have hz : decide (0 < (y.b : Int)) = true := by simp; omega
              have hz2 : 0 < y.b := by omega
              by_cases e1 : y.b = x.b
              · have hq : ((y.b : Int) == (x.b : Int)) = true := by simp [e1]
                by_cases e2 : y.s = x.s
                · have HC := Lib.hid (HH.out (by omega) e1 e2)
                  have ht : (y.s.toList == x.s.toList) = true := by rw [e2]; simp
                  clear e0 e1 e2
                  go_wp2
                  go_quiet (fail)
                  go_wp2
                  go_roundw
                  case rel => exact ⟨k + 1, by omega, by go_num, by rw [HC.out]; go_num, by repeat first | exact HB.out | apply Ros.below_dN''⟩
                  case measure => simp [intOf]; omega
                · have HC := Lib.hid (HI.out (.inr (.inr e2)))
                  have ht : (y.s.toList == x.s.toList) = false := by rw [beq_bl, decide_eq_false_iff_not]; exact e2
                  clear e0 e1 e2
                  go_wp2
                  go_quiet (fail)
                  go_wp2
                  go_roundw
                  case rel => exact ⟨k + 1, by omega, by go_num, by rw [HC.out], by repeat first | exact HB.out | apply Ros.below_dN''⟩
                  case measure => simp [intOf]; omega
              · have HC := Lib.hid (HI.out (.inr (.inl e1)))
                have hq : ((y.b : Int) == (x.b : Int)) = false := by simp; omega
                clear e0 e1
                go_wp2
                go_quiet (fail)
                go_wp2
                go_roundw
                case rel => exact ⟨k + 1, by omega, by go_num, by rw [HC.out], by repeat first | exact HB.out | apply Ros.below_dN''⟩
                case measure => simp [intOf]; omega
            · obtain rfl : k = l.length := by omega
              have hmj := cnt0_maj (l := l) (x := x)
              by_cases hb : l.length < 2 * cnt0 l x l.length
              · have HE := Lib.hid (HM.out (by rw [hmj]; simp [hb]))
                have hb' : (l.length : Int) < 2 * (cnt0 l x l.length : Int) := by omega
                obtain ⟨a, hA, _, p0, p1, p2⟩ := HV.out _ HB.out i hil
                subst hA
                rw [← HX.out] at p2
                clear hmj
                go_wp2
                go_ret3
                exact ⟨by rw [HE.out]; rfl, HB.out⟩
              · have HE := Lib.hid (HM2.out (by rw [hmj]; simp [hb]))
                have hb' : ¬ (l.length : Int) < 2 * (cnt0 l x l.length : Int) := by omega
                clear hmj
                go_wp2
                go_roundw
                case rel => exact ⟨i + 1, by omega, by go_num, HE.out, HB.out⟩
                case measure => simp [intOf]; omega
        · obtain rfl : i = l.length := by omega
          have HE := Lib.hid (mdec_none h1 h2 HR.out (fun v hv => by
            obtain ⟨j, hj, rfl⟩ := List.mem_iff_getElem.1 hv
            exact HN.out j hj hj))
          go_wp2
          go_ret3
          exact ⟨by rw [HE.out]; rfl, HB.out⟩
end Go.Proofs.Ytcfaeddjohpohaa
