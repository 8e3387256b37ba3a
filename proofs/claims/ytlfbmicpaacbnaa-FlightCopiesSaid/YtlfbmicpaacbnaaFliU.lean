/-
  FlightCopies, walked. Conditions: none but the arguments' own.
-/
import Derived.Test.YtlfbmicpaacbnaaFliW
import Derived.Deep.RegionLaw
import Derived.BigQuiet
import Derived.Deep.QuietTactic
namespace Ros
open Go Go.RowKit
theorem below_dN3 {B : Nat} {a w : World} (h : Below B a w) (n : Nat) : Below B a (w.drewN n) := ⟨h.os, h.tape, h.output, h.size, h.block⟩
theorem take_same_succ {α : Type} {l m : List α} {k : Nat} (h : l.take k = m.take k) (hl : k < l.length) (hm : k < m.length) (he : l[k] = m[k]) : l.take (k + 1) = m.take (k + 1) := by
  rw [List.take_succ_eq_append_getElem hl, List.take_succ_eq_append_getElem hm, h, he]
theorem take_same_all {α : Type} {l m : List α} {k : Nat} (h : l.take k = m.take k) (hl : k = l.length) (hm : k = m.length) : l = m := by
  rw [List.take_of_length_le (by omega), List.take_of_length_le (by omega)] at h; exact h
theorem mcopy_yes {f : Fs} {k : Nat} (hk : k < f.l.length) (hl : f.l.length ≤ 60) : ∃ x, (mcopy f (k : Int)).1.2 = 0 ∧ (mcopy f (k : Int)).2.l = f.l ++ [x] := by
  unfold mcopy mlaunch
  rw [if_pos (isB_iff.2 (by omega)), if_neg (by omega)]
  exact ⟨_, rfl, rfl⟩
theorem mcopy_no' {f : Fs} {a : Int} (h : isB f.l a = false) : mcopy f a = ((0, 2), f) := by unfold mcopy; simp [h]
theorem mtake_last {f : Fs} {l : List Nt} {x : Nt} (h : f.l = l ++ [x]) : (mtake f (l.length : Int)).1.2 = 0 ∧ (mtake f (l.length : Int)).2.l = l := by
  unfold mtake
  rw [if_pos (isB_iff.2 (by rw [h]; simp; omega)), h]
  refine ⟨rfl, ?_⟩
  simp [List.eraseIdx_append_of_length_le]
end Ros
namespace Go.Proofs.Ytlfbmicpaacbnaa
open Go.RowKit Go.Shelf Ros
attribute [local go_sem] Oper.semAt_some
attribute [local go_sem ↓] Go.wp_at_zero Go.wp_at_succ

/-- A note of a row, as cells. -/
theorem row_note {w : World} {A : Option Addr} {c : Nat} {l : List Nt} (hr : Row w 35 3 (.slice A l.length c) l.length (cellsNs l)) (k : Nat) (hk : k < l.length) :
    ∃ gb, A = some ⟨gb, 0, none⟩ ∧ gb < w.heap.size ∧ w.cell? ⟨gb, k * 3, none⟩ = some (.int .u32 (l[k].id : Int)) ∧ w.cell? ⟨gb, k * 3 + 1, none⟩ = some (.int .i64 l[k].to) ∧ w.cell? ⟨gb, k * 3 + 2, none⟩ = some (.string l[k].s) := by
  obtain ⟨gb, cb, hv, _, _, hgb, hcs, hfs⟩ := hr.some_ (by omega)
  cases hv
  exact ⟨gb, rfl, hgb, hcs _ _ (by rw [← Nat.add_zero (k * 3), cellsNs_at l k 0 hk (by omega)]; rfl), hcs _ _ (by rw [cellsNs_at l k 1 hk (by omega)]; rfl), hcs _ _ (by rw [cellsNs_at l k 2 hk (by omega)]; rfl)⟩

set_option maxRecDepth 100000 in
set_option maxHeartbeats 2000000 in
theorem noteSame_any (A B : Option Addr) (ca cb : Nat) (l m : List Nt) (w : World) (ha : Row w 35 3 (.slice A l.length ca) l.length (cellsNs l)) (hb : Row w 35 3 (.slice B m.length cb) m.length (cellsNs m)) (hl : l.length ≤ 100000) :
    Calls Try.prog 18 #[.slice A l.length ca, .slice B m.length cb] w fun e w' => e = .returned (.bool (decide (l = m))) ∧ Below w.heap.size w w' := by
  have HA := Lib.hid ha
  have HB := Lib.hid hb
  clear ha hb
  by_cases hlm : l.length = m.length
  · have hbq : ((l.length : Int) != (m.length : Int)) = false := by rw [hlm]; simp
    have HLM := Lib.hid hlm
    clear hlm
    go_enter Try.func18, Try.ntmps18
    go_wp2
    go_loopw [5] (fun i wr => ∃ k : Nat, k ≤ l.length ∧ i = .int .i64 k ∧ l.take k = m.take k ∧ Below w.heap.size w wr) (fun i _ => l.length - (intOf i).toNat)
    case atStart => exact ⟨0, by omega, rfl, by simp, Below.refl _ _⟩
    case round =>
      obtain ⟨k, hk, rfl, hT, hBl⟩ := hrel
      have HT := Lib.hid hT
      have HBl := Lib.hid hBl
      clear hT hBl
      by_cases hlt : k < l.length
      · have hlt2 : k < m.length := by have := HLM.out; omega
        obtain ⟨ga, rfl, hga, p0, p1, p2⟩ := row_note (HA.out.below HBl.out (Nat.le_refl _)) k hlt
        obtain ⟨gb, rfl, hgb, q0, q1, q2⟩ := row_note (HB.out.below HBl.out (Nat.le_refl _)) k hlt2
        by_cases he : l[k] = m[k]
        · have HS := Lib.hid (take_same_succ HT.out hlt hlt2 he)
          rw [← he] at q0 q1 q2
          clear he
          generalize l[k] = x at *
          go_wp2
          go_quiet (fail)
          go_wp2
          go_roundw
          case rel => exact ⟨k + 1, by omega, by go_num, HS.out, by repeat first | exact HBl.out | apply Below.drew | apply below_dN3⟩
          case measure => simp [intOf]; omega
        · have HN := Lib.hid (show decide (l = m) = false from by rw [decide_eq_false_iff_not]; intro e; subst e; exact he rfl)
          have hne : l[k].id ≠ m[k].id ∨ (l[k].id = m[k].id ∧ l[k].to ≠ m[k].to) ∨ (l[k].id = m[k].id ∧ l[k].to = m[k].to ∧ l[k].s ≠ m[k].s) := by
            by_cases e1 : l[k].id = m[k].id
            · by_cases e2 : l[k].to = m[k].to
              · refine .inr (.inr ⟨e1, e2, fun e3 => he ?_⟩)
                cases hx : l[k]; cases hy : m[k]; rw [hx, hy] at e1 e2 e3; simp_all
              · exact .inr (.inl ⟨e1, e2⟩)
            · exact .inl e1
          clear he
          generalize l[k] = x at *
          generalize m[k] = y at *
          rcases hne with h1 | ⟨h1, h2⟩ | ⟨h1, h2, h3⟩
          · have hq : ((x.id : Int) == (y.id : Int)) = false := by simp; omega
            clear h1
            go_wp2
            go_quiet (fail)
            go_wp2
            go_ret
            exact ⟨by rw [HN.out]; rfl, by repeat first | exact HBl.out | apply Below.drew | apply below_dN3⟩
          · have hq : (x.to == y.to) = false := by simpa using h2
            rw [← h1] at q0
            clear h1 h2
            go_wp2
            go_quiet (fail)
            go_wp2
            go_ret
            exact ⟨by rw [HN.out]; rfl, by repeat first | exact HBl.out | apply Below.drew | apply below_dN3⟩
          · have hq : (x.s.toList == y.s.toList) = false := by rw [beq_bl, decide_eq_false_iff_not]; exact h3
            rw [← h1] at q0
            rw [← h2] at q1
            clear h1 h2 h3
            go_wp2
            go_quiet (fail)
            go_wp2
            go_ret
            exact ⟨by rw [HN.out]; rfl, by repeat first | exact HBl.out | apply Below.drew | apply below_dN3⟩
      · obtain rfl : k = l.length := by omega
        have HS := Lib.hid (take_same_all HT.out rfl HLM.out)
        go_wp2
        go_ret
        exact ⟨by rw [HS.out]; simp, HBl.out⟩
  · have hbq : ((l.length : Int) != (m.length : Int)) = true := by rw [bne_iff_ne]; omega
    have HN := Lib.hid (show decide (l = m) = false from by rw [decide_eq_false_iff_not]; intro e; subst e; exact hlm rfl)
    go_enter Try.func18, Try.ntmps18
    go_wp2
    go_ret
    exact ⟨by rw [HN.out]; rfl, Below.refl _ _⟩

set_option maxRecDepth 100000 in
set_option maxHeartbeats 4000000 in
theorem flightCopies_walk (A : Option Addr) (n c : Nat) (xs : List Ac) (at_ : Int) (w : World) (ha : ActsAt w A n xs) (h1 : -9223372036854775808 ≤ at_) (h2 : at_ ≤ 9223372036854775807) :
    Calls Try.prog 5 #[.slice A n c, .int .i64 at_] w fun e w' => e = .returned (.bool true) ∧ Below w.heap.size w w' := by
  have HA := Lib.hid ha
  clear ha
  go_enter Try.func5, Try.ntmps5
  go_wp2_with (first | (go_at_call 10; refine (shown_any _).mono ?_; rintro e W1 ⟨rfl, h1⟩) | (go_at_call 11; refine (new_law h1).mono ?_; rintro e W2 ⟨rfl, h2, _⟩; generalize W1.heap.size = g at h2 ⊢))
  go_loopw [7] (fun i wr => ∃ (k : Nat) (S : Nat → Prop) (f : Fs), k ≤ 60 ∧ k ≤ n ∧ i = .int .i64 k ∧ f.l.length ≤ k ∧ LawAt w wr S g f) (fun i _ => 60 - (intOf i).toNat)
  case atStart => exact ⟨0, _, ⟨0, []⟩, by omega, by omega, rfl, by simp, h2⟩
  case round =>
    obtain ⟨k, S, f, hk, hkn, rfl, hfl, hL⟩ := hrel
    clear h2
    by_cases hlt : k < n ∧ k < 60
    · obtain ⟨hl1, hl2⟩ := hlt
      obtain ⟨a, x, rfl, hox, c0, c1, c2, c3, c4⟩ := act_cells HA.out hL.2.1 hl1
      have HX := Lib.hid hox
      have hbl : (a.add (k * 5)).block < wr.heap.size := World.block_lt_of_cell? wr _ c0
      have HS := Lib.hid (fun (W : World) (h : LawAt w W S g f) => send_law h (by omega) x.a (cutS x.s))
      have HF := Lib.hid (show (msend f x.a (cutS x.s)).2.l.length ≤ k + 1 by
        have : (msend f x.a (cutS x.s)).2.l.length ≤ f.l.length + 1 := by
          unfold msend mlaunch; split
          · exact Nat.le_succ _
          · split
            · exact Nat.le_succ _
            · simp
        omega)
      have HL := Lib.hid hL
      clear hL hox
      generalize msend f x.a (cutS x.s) = r at *
      rcases do_of x.d with hm | hm | hm | hm | hm | hm
      all_goals try
        (go_wp2
         go_roundw
         case rel => exact ⟨k + 1, S, f, by omega, by omega, by go_num, by omega, HL.out⟩
         case measure => simp [intOf]; omega)
      all_goals
        go_wp2_with fail
        go_region_law ((first
          | (go_simp; go_at_call 15; refine (atext_any x _ HX.out.2.2.2.2).mono ?_; rintro e w1 ⟨rfl, rfl⟩)
          | (go_simp; go_at_call 12; refine (HS.out _ (by repeat first | exact HL.out | apply LawAt.alloc | apply LawAt.drew)).mono ?_; rintro e W3 ⟨rfl, S3, h3, _⟩)))
        all_goals
          go_wp2
          go_roundw
          case rel => exact ⟨k + 1, S3, r.2, by omega, by omega, by go_num, HF.out, h3⟩
          case measure => simp [intOf]; omega
    · have HL := Lib.hid hL
      clear hL
      have hl1 : f.l.length ≤ 1000 := by omega
      have HA1 := Lib.hid (fun (W : World) (h : LawAt w W S g f) => all_new h hl1)
      cases hb : isB f.l at_
      · have HC := Lib.hid (fun (W : World) (A : Option Addr) (c : Nat) (h : ByRow w W S g f 35 3 (.slice A f.l.length c) f.l.length (cellsNs f.l)) => copy_by h hl1 at_)
        rw [mcopy_no' hb] at HC
        have hbb := isB_no.1 hb
        clear hb
        rcases hbb with hbb | hbb
        all_goals
          go_wp2_with (first
            | (go_at_call 13; refine (HA1.out _ HL.out).mono ?_; rintro e W3 ⟨A3, c3, rfl, h3⟩; have H3 := Lib.hid h3; clear h3)
            | (go_at_call 14; refine (HC.out _ _ _ H3.out).mono ?_; rintro e W4 ⟨rfl, S4, h4⟩; have H4 := Lib.hid h4; clear h4))
          all_goals
            go_ret
            exact ⟨rfl, H4.out.1.2.1⟩
      · obtain ⟨q0, q1⟩ := isB_iff.1 hb
        obtain ⟨j, rfl⟩ := Int.eq_ofNat_of_zero_le q0
        have hj : j < f.l.length := by omega
        obtain ⟨x, hx1, hx2⟩ := mcopy_yes hj (by omega)
        have HC := Lib.hid (fun (W : World) (A : Option Addr) (c : Nat) (h : ByRow w W S g f 35 3 (.slice A f.l.length c) f.l.length (cellsNs f.l)) => copy_by h hl1 (j : Int))
        rw [hx1] at HC
        obtain ⟨y1, y2⟩ := mtake_last (f := (mcopy f (j : Int)).2) hx2
        have HL2 := Lib.hid (show (mcopy f (j : Int)).2.l.length ≤ 1000 by rw [hx2]; simp; omega)
        have HX2 := Lib.hid hx2
        clear hx1 hx2 hb
        generalize (mcopy f (j : Int)).2 = f2 at *
        have HD := Lib.hid (fun (W : World) (S2 : Nat → Prop) (A : Option Addr) (c : Nat) (h : ByRow w W S2 g f2 35 3 (.slice A f.l.length c) f.l.length (cellsNs f.l)) => drop_by h HL2.out (f.l.length : Int))
        rw [y1] at HD
        have HY := Lib.hid y2
        clear y1 y2
        generalize (mtake f2 (f.l.length : Int)).2 = f3 at *
        have HB := Lib.hid (fun (W : World) (S3 : Nat → Prop) (A : Option Addr) (c : Nat) (h : ByRow w W S3 g f3 35 3 (.slice A f.l.length c) f.l.length (cellsNs f.l)) => all_by h (by rw [HY.out]; exact hl1))
        rw [HY.out] at HB
        go_wp2_with (first
          | (go_at_call 16; refine (HD.out _ _ _ _ H4.out).mono ?_; rintro e W5 ⟨rfl, S5, h5⟩; have H5 := Lib.hid h5; clear h5)
          | (go_at_call 14; refine (HC.out _ _ _ H3.out).mono ?_; rintro e W4 ⟨rfl, S4, h4⟩; have H4 := Lib.hid h4; clear h4)
          | (go_at_call 18; refine (noteSame_any _ _ _ _ f.l f.l _ HR6.out H6.out.2.1 (by omega)).mono ?_; rintro e W7 ⟨rfl, b7⟩; have B7 := Lib.hid b7; clear b7)
          | (go_at_call 13; refine (HA1.out _ HL.out).mono ?_; rintro e W3 ⟨A3, c3, rfl, h3⟩; have H3 := Lib.hid h3; clear h3)
          | (go_at_call 13; refine (HB.out _ _ _ _ H5.out).mono ?_; rintro e W6 ⟨A6, c6, rfl, hr6, h6⟩; have HR6 := Lib.hid hr6; have H6 := Lib.hid h6; clear hr6 h6))
        all_goals
          go_ret
          exact ⟨by simp, H6.out.1.2.1.trans (B7.out.mono H6.out.1.2.1.size)⟩
end Go.Proofs.Ytlfbmicpaacbnaa
