/-
  What is decided. Conditions: lists are at most as long as Go allows.
-/
import Derived.Test.YtcfaeddjohpohaaBalF
import Derived.Outline
import Derived.BigQuiet
import Derived.Deep.QuietTactic
namespace Ros
open Go Go.RowKit
theorem below_dN'' {B : Nat} {a w : World} (h : Below B a w) (n : Nat) : Below B a (w.drewN n) := ⟨h.os, h.tape, h.output, h.size, h.block⟩
end Ros
namespace Go.Proofs.Ytcfaeddjohpohaa
open Go.RowKit Go.Shelf Ros
attribute [local go_sem] Oper.semAt_some
set_option linter.unusedVariables false

theorem zero_int (w : World) : (zeroValue 3).run Try.prog w = .ok (.int .i64 0) w := by kernel_rfl

set_option maxRecDepth 100000 in
set_option maxHeartbeats 6000000 in
theorem decided_yes (A : Option Addr) (c : Nat) (l : List Vt) (w : World) (ha : ArgAt w 3 A l.length (cellsVs l)) (h1 : 1 ≤ l.length) (h2 : l.length ≤ 16) (hok : ∀ x ∈ l, x.ok) (hr : l.all rightB = true) :
    Calls Try.prog 19 #[.slice A l.length c] w fun e w' => e = .returned (.tuple #[.string (mdec l).1.1, .bool (mdec l).1.2, .int .i64 (mdec l).2]) ∧ Below w.heap.size w w' := by
  have HR := Lib.hid (fun w1 h => areRight_any A c l w1 h (by omega) hok)
  rw [hr] at HR
  have HA := Lib.hid ha
  have HAR := Lib.hid hr
  clear ha hr
  have hmm := @run_makeMap Try.prog
  refine calls_marksP Try.func19 rfl ?_
  simp only [Try.ntmps19, List.size_toArray, List.length_cons, List.length_nil, Nat.reduceAdd, Nat.reduceSub, Array.replicate_succ, Array.replicate_zero, List.push_toArray, List.append_toArray, List.nil_append, List.cons_append]
  go_wp2
  go_step3
  go_wp2_with (go_at_call 26; refine (HR.out _ (HA.out.alloc _)).mono ?_; rintro e w1 ⟨rfl, hb1⟩; have hbx := boxes1 hb1; obtain ⟨p0, f0, z0⟩ := cells1 hbx; have z1 := Nat.lt_succ_of_lt z0; have z2 := Nat.lt_succ_of_lt z1; rw [Nat.succ_eq_add_one] at z1 z2; have HB1 := Lib.hid (below1 hb1); have HX := Lib.hid hbx; clear hb1 hbx)
  go_step3
  go_wp2_with (go_at_call 27; refine (values_any _ _ _ _).mono ?_; rintro e w' ⟨rfl, rfl⟩)
  have hm0 := Mp.made w1 Try.prog 24 ekV
  have HM := Lib.hid (((hm0.alloc (.cells #[.map (some w1.heap.size)] 60)).alloc (.cells (cv vt0) 24)).alloc (.cells #[.slice A l.length c] 36))
  have HB2 := Lib.hid ((((HB1.out.alloc HB1.out.size (.map #[] 0)).alloc (by simp; have := HB1.out.size; omega) (.cells #[.map (some w1.heap.size)] 60)).alloc (by simp; have := HB1.out.size; omega) (.cells (cv vt0) 24)).alloc (by simp; have := HB1.out.size; omega) (.cells #[.slice A l.length c] 36))
  clear hm0
  refine range_lawP (gf := 28) (lb := #[.pointer (some ⟨w1.heap.size + 1 + 1 + 1, 0, none⟩)]) rfl (enters_of Try.func28 (by kernel_rfl) rfl) (values1_iter (w1.heap.size + 1 + 1 + 1) A c l (by omega)) (fun _ => rfl)
    (fun pre W => Boxed W w.heap.size 36 (.slice A l.length c) ∧ Boxed W (w1.heap.size + 1) 60 (.map (some w1.heap.size)) ∧ W.heap[w1.heap.size + 1 + 1]? = some (.cells (cv vt0) 24 (0, 0)) ∧ Boxed W (w1.heap.size + 1 + 1 + 1) 36 (.slice A l.length c) ∧
      Below w.heap.size w W ∧ (∃ n, Mp W Try.prog 24 w1.heap.size n ekV (votesF pre) ∧ n ≤ pre.length) ∧ noMaj l pre)
    (fun e pre W => ∃ v, e = .exit 0 ∧ (v ∈ l ∧ majB l v = true) ∧ W.heap[w1.heap.size + 1 + 1]? = some (.cells (cv ⟨0, v.b, v.s⟩) 24 (0, 0)) ∧ Below w.heap.size w W)
    ((own_box _ _ _ _).and ((own_box _ _ _ _).and ((own_cells _ _ _ _ _).and ((own_box _ _ _ _).and ((own_below (Nat.le_refl _) (by have := HB2.out.size; exact this)).and ((own_mpE _ _ (by simp; omega) _ _ _ _ _).and (own_pure _ _)))))))
    (fun _ => own_ex fun _ => (own_pure _ _).and ((own_pure _ _).and ((own_cells _ _ _ _ _).and (own_below (Nat.le_refl _) (by have := HB2.out.size; exact this))))) (fun _ _ h => ⟨h.2.2.2.1.cell, HA.out.below h.2.2.2.2.1⟩) ?h0 ?hround ?hdone ?hstop
  case h0 =>
    have e3 : ((w1.alloc (.map #[] 0)).alloc (.cells #[.map (some w1.heap.size)] 60)).heap.size = w1.heap.size + 1 + 1 := by simp
    have e4 : (((w1.alloc (.map #[] 0)).alloc (.cells #[.map (some w1.heap.size)] 60)).alloc (.cells (cv vt0) 24)).heap.size = w1.heap.size + 1 + 1 + 1 := by simp
    have k3 := World.alloc_heap_new ((w1.alloc (.map #[] 0)).alloc (.cells #[.map (some w1.heap.size)] 60)) (.cells (cv vt0) 24)
    have k4 := World.alloc_heap_new (((w1.alloc (.map #[] 0)).alloc (.cells #[.map (some w1.heap.size)] 60)).alloc (.cells (cv vt0) 24)) (.cells #[.slice A l.length c] 36)
    rw [e3] at k3
    rw [e4] at k4
    exact ⟨obj_alloc (obj_alloc (obj_alloc (obj_alloc HX.out _) _) _) _, obj_alloc (obj_alloc (new2 w1 (.map #[] 0) (.cells #[.map (some w1.heap.size)] 60)) _) _, obj_alloc k3 _, k4, HB2.out, ⟨0, HM.out.congr (fun _ => by rw [votesF_nil]) rfl, Nat.le_refl _⟩, fun v hv => by simp at hv⟩
  case hround =>
    rintro L pre x post W hxs hlL hlW ⟨hb1, hb2, hb3, hb4, hB, ⟨n, hM, hn⟩, hN⟩
    have hx : x.ok := hok x (by rw [hxs]; simp)
    have HX' := Lib.hid hxs
    have HN := Lib.hid hN
    dsimp only [encV]
    clear hxs hN
    gi_wp2
    refine ⟨keeps_below ((Below.refl _ W).alloc (Nat.le_refl _) _), ⟨hb1.alloc _, hb2.alloc _, obj_alloc hb3 _, hb4.alloc _, hB.alloc (by have := hB.size; omega) _, ⟨n, hM.alloc _, hn⟩, HN.out⟩, ?_⟩
    clear hb1 hb2 hb3 hb4 hB hM
    rintro W2 hg hsz ⟨hb1, hb2, hb3, hb4, hB, ⟨n, hM, hn⟩, _⟩
    have hbn := (hg.block W.heap.size (by simp) (by simp; omega)).trans (World.alloc_heap_new W _)
    obtain ⟨a0, a1, a2, f0, f1, f2, zz⟩ := cells3 hbn
    have HSZ := Lib.hid hsz
    clear hsz
    obtain ⟨hx1, hx2, hx3⟩ := hx
    have l1 : w1.heap.size + 1 < W2.heap.size := obj_lt hb2
    have l2 : w1.heap.size + 1 + 1 < W2.heap.size := obj_lt hb3
    have l0 : w.heap.size < W2.heap.size := obj_lt hb1
    have c1 := hb1.cell
    have c2 := hb2.cell
    have hpl : pre.length < l.length := by have := congrArg List.length HX'.out; simp at this; omega
    by_cases h0 : x.b = 0
    · have hq : ((x.b : Int) == 0) = true := by simp [h0]
      have hrx : rightB x = true := (List.all_eq_true.1 HAR.out) x (by rw [HX'.out]; simp)
      have hse : x.s.size = 0 := by have := (rightB_iff x).1 hrx; omega
      obtain ⟨s1, s2, s3⟩ := empty_of hse
      have HV := Lib.hid (noMaj_zero HN.out h0)
      have HMs := Lib.hid (hM.congr (fun y => (votesF_zero h0 y).symm) rfl)
      clear hse hrx h0 hM
      gi_wp2
      exact ⟨keeps_below ((Below.refl _ W2).alloc (Nat.le_refl _) _), hb1.alloc _, hb2.alloc _, obj_alloc hb3 _, hb4.alloc _, hB.alloc hB.size _, ⟨_, HMs.out.alloc _, by simp; omega⟩, HV.out⟩
    · have hq : ((x.b : Int) == 0) = false := by simp; omega
      have hb0 : 0 < x.b := by omega
      obtain ⟨kl, hkl⟩ := vote_key (x.b, x.s) hx2 (by unfold maxLen; simp only []; omega)
      have hcl := cntV_le x.b x.s pre
      have hM3 : Mp (W2.alloc (.cells #[.int .u64 0, .int .u64 (x.b : Int), .string x.s] 24)).drew Try.prog 24 w1.heap.size n ekV (votesF pre) := (hM.alloc _).drew
      obtain ⟨v0, st, Wm, r1, ⟨m, hm, hMm⟩, hgm, hv0, r2⟩ := hM3.entry_ vote_law ekV_inj Try.underlying60 zero_int (by unfold maxLen; omega) hkl
      obtain ⟨Ws, r3, hMs, hgs⟩ := r2 (.int .i64 ((cntV x.b x.s pre : Int) + 1))
      rw [votesF_get hb0] at hv0
      subst hv0
      have r0 := (hM3.look_ (Maps.Keyed.of_law vote_law) Try.underlying60 (zero_int _) hkl).1
      rw [votesF_get hb0] at r0
      have r4 := (hMm.look_ (Maps.Keyed.of_law vote_law) Try.underlying60 (zero_int _) hkl).1
      rw [if_pos rfl] at r4
      simp only [Option.getD_some] at r4
      have r5 := (hMs.drew.look_ (Maps.Keyed.of_law vote_law) Try.underlying60 (zero_int _) hkl).1
      rw [if_pos rfl] at r5
      simp only [Option.getD_some] at r5
      unfold ekV at r0 r1 r4 r5
      unfold goInt at r1 r3
      dsimp only at r0 r1 r4 r5
      have n1 : some w1.heap.size ≠ some w.heap.size := fun e => by injection e with e; omega
      have n2 : some w1.heap.size ≠ some (w1.heap.size + 1) := fun e => by injection e with e; omega
      have n3 : some w1.heap.size ≠ some (w1.heap.size + 1 + 1) := fun e => by injection e with e; omega
      have n4 : some w1.heap.size ≠ some (w1.heap.size + 1 + 1 + 1) := fun e => by injection e with e; omega
      have n5 : some w1.heap.size ≠ some W2.heap.size := fun e => by injection e with e; omega
      have s1 := obj_grown (show (W2.alloc _).drew.heap[w.heap.size]? = _ from obj_alloc hb1 (.cells #[.int .u64 0, .int .u64 (x.b : Int), .string x.s] 24)) hgs n1
      have s2 := obj_grown (show (W2.alloc _).drew.heap[w1.heap.size + 1]? = _ from obj_alloc hb2 (.cells #[.int .u64 0, .int .u64 (x.b : Int), .string x.s] 24)) hgs n2
      have s3 := obj_grown (show (W2.alloc _).drew.heap[w1.heap.size + 1 + 1]? = _ from obj_alloc hb3 (.cells #[.int .u64 0, .int .u64 (x.b : Int), .string x.s] 24)) hgs n3
      have s4 := obj_grown (show (W2.alloc _).drew.heap[w1.heap.size + 1 + 1 + 1]? = _ from obj_alloc hb4 (.cells #[.int .u64 0, .int .u64 (x.b : Int), .string x.s] 24)) hgs n4
      have s5 := obj_grown (show (W2.alloc _).drew.heap[W2.heap.size]? = _ from World.alloc_heap_new W2 (.cells #[.int .u64 0, .int .u64 (x.b : Int), .string x.s] 24)) hgs n5
      have hBs : Below w.heap.size w Ws := ((hB.alloc hB.size (.cells #[.int .u64 0, .int .u64 (x.b : Int), .string x.s] 24)).drew).grown hgs (by have := hB.size; simp; omega) (fun k e => by injection e with e; omega)
      have hKs : KeepsFrom ((((w1.alloc (.map #[] 0)).alloc (.cells #[.map (some w1.heap.size)] 60)).alloc (.cells #[.int .u64 0, .int .u64 0, .string ⟨#[]⟩] 24)).alloc (.cells #[.slice A l.length c] 36)).heap.size W2 Ws :=
        ((keeps_below ((Below.refl _ W2).alloc (Nat.le_refl _) _)).trans (keeps_drew (KeepsFrom.refl _ _))).trans (keeps_grown hgs (by simp; omega))
      have q1 : Ws.cell? ⟨w.heap.size, 0, none⟩ = some (.slice A l.length c) := cell_row s1 0
      have q2 : Ws.cell? ⟨w1.heap.size + 1, 0, none⟩ = some (.map (some w1.heap.size)) := cell_row s2 0
      obtain ⟨q3, q4, q5, _⟩ := cells3 s5
      obtain ⟨q6, q7, q8, g6, g7, g8, z6⟩ := cells3 s3
      have S1 := Lib.hid s1
      have S2 := Lib.hid s2
      have S3 := Lib.hid s3
      have S4 := Lib.hid s4
      have HBs := Lib.hid hBs
      have HKs := Lib.hid hKs
      have HMs := Lib.hid (hMs.congr (votesF_put hb0) rfl)
      have HCS := Lib.hid (cntV_snoc x.b x.s pre x)
      have hwr : IntKind.i64.wrap ((cntV x.b x.s pre : Int) + 1) = (cntV x.b x.s pre : Int) + 1 := IntWalk.i64_in _ ⟨by omega, by omega⟩
      have hwr2 : IntKind.i64.wrap (2 * ((cntV x.b x.s pre : Int) + 1)) = 2 * ((cntV x.b x.s pre : Int) + 1) := IntWalk.i64_in _ ⟨by omega, by omega⟩
      clear hMm hMs hM3 hgm hgs r2 hkl s1 s2 s3 s4 s5 hBs hKs n1 n2 n3 n4 n5
      by_cases hmj : l.length < 2 * (cntV x.b x.s pre + 1)
      · have HV := Lib.hid (maj_pre HX'.out hb0 hmj)
        have hmj' : (l.length : Int) < 2 * ((cntV x.b x.s pre : Int) + 1) := by omega
        gi_wp2
        gi_region
        all_goals
          gi_wp2
          refine round_still_tail L _ 6 (by kernel_rfl) (by kernel_rfl) (by kernel_rfl) (by rintro ⟨_, _, h⟩; exact h) ?_
          simp only [List.take_succ_cons, List.take_zero, List.drop_succ_cons, List.drop_zero]
          repeat still_step
          refine wpStill_nil ?_
          go_wp2
          gi_wp2
          refine ⟨(((keeps_drew HKs.out).trans (keeps_set _ _ _)).trans (keeps_set _ _ _)).trans (keeps_set _ _ _), x, rfl, HV.out, ?_, ?_⟩
          · rw [← cv_set vt0 ⟨0, x.b, x.s⟩]
            exact row_set (row_set (row_set S3.out _ _) _ _) _ _
          · exact ((HBs.out.drew.setCell (p := ⟨w1.heap.size + 1 + 1, 0, none⟩) (by simp only []; omega) _).setCell (p := ⟨w1.heap.size + 1 + 1, 1, none⟩) (by simp only []; omega) _).setCell (p := ⟨w1.heap.size + 1 + 1, 2, none⟩) (by simp only []; omega) _
      · have hmj' : ¬ (l.length : Int) < 2 * ((cntV x.b x.s pre : Int) + 1) := by omega
        have HV := Lib.hid (noMaj_snoc HN.out (v := x) (show 2 * (cntV x.b x.s pre + 1) ≤ l.length by omega))
        gi_wp2
        gi_region
        all_goals
          gi_wp2
          refine round_still_tail L _ 6 (by kernel_rfl) (by kernel_rfl) (by kernel_rfl) (by rintro ⟨_, _, h⟩; exact h) ?_
          simp only [List.take_succ_cons, List.take_zero, List.drop_succ_cons, List.drop_zero]
          repeat still_step
          refine wpStill_nil ?_
          go_wp2
          gi_wp2
          exact ⟨keeps_drew HKs.out, S1.out, S2.out, S3.out, S4.out, HBs.out.drew, ⟨_, HMs.out.drew, by simp; split <;> omega⟩, HV.out⟩
  case hdone =>
    rintro D W hD ⟨hb1, hb2, hb3, hb4, hB, _, hN⟩ hK
    have q6 : W.cell? ⟨w1.heap.size + 1 + 1, 0, none⟩ = some (.int .u64 0) := (cells3 hb3).1
    have q7 : W.cell? ⟨w1.heap.size + 1 + 1, 1, none⟩ = some (.int .u64 0) := (cells3 hb3).2.1
    have q8 : W.cell? ⟨w1.heap.size + 1 + 1, 2, none⟩ = some (.string ⟨#[]⟩) := (cells3 hb3).2.2.1
    have HD := Lib.hid (mdec_none h1 h2 HAR.out (noMaj_end hN))
    clear hN
    go_wp2
    go_quiet (fail)
    go_wp2
    rw [Exit.noGoto_ret]
    refine leaves_mark3 rfl (show (W.drewN _).heap[D]? = _ from hK) ?_
    exact ⟨by rw [HD.out]; rfl, below_put (Ros.below_dN'' hB _) (by simp at hD; omega) (Nat.le_refl _)⟩
  case hstop =>
    rintro D c pre W hD hp ⟨v, rfl, ⟨hv1, hv2⟩, hb3, hB⟩ hK
    have q6 : W.cell? ⟨w1.heap.size + 1 + 1, 0, none⟩ = some (.int .u64 0) := (cells3 hb3).1
    have q7 : W.cell? ⟨w1.heap.size + 1 + 1, 1, none⟩ = some (.int .u64 (v.b : Int)) := (cells3 hb3).2.1
    have q8 : W.cell? ⟨w1.heap.size + 1 + 1, 2, none⟩ = some (.string v.s) := (cells3 hb3).2.2.1
    have HD := Lib.hid (mdec_maj h1 h2 HAR.out hv1 hv2)
    have hvb : ((v.b : Int) == 0) = false := by have := (majB_iff.1 hv2).1; simp; omega
    clear hv1 hv2
    go_wp2
    go_quiet (fail)
    go_wp2
    rw [Exit.noGoto_ret]
    refine leaves_mark3 rfl (show (W.drewN _).heap[D]? = _ from hK) ?_
    exact ⟨by rw [HD.out]; rfl, below_put (Ros.below_dN'' hB _) (by simp at hD; omega) (Nat.le_refl _)⟩

set_option maxRecDepth 100000 in
set_option maxHeartbeats 1000000 in
theorem decided_no (A : Option Addr) (c : Nat) (l : List Vt) (w : World) (hl : l.length ≤ maxLen) (h : ¬ (1 ≤ l.length ∧ l.length ≤ 16)) :
    Calls Try.prog 19 #[.slice A l.length c] w fun e w' => e = .returned (.tuple #[.string ⟨#[]⟩, .bool false, .int .i64 81]) ∧ Below w.heap.size w w' := by
  unfold maxLen at hl
  have hB := (Below.refl _ w).alloc (Nat.le_refl _) (.cells #[.slice A l.length c] 36)
  by_cases h1 : (l.length : Int) < 1
  · refine calls_marksP Try.func19 rfl ?_
    simp only [Try.ntmps19, List.size_toArray, List.length_cons, List.length_nil, Nat.reduceAdd, Nat.reduceSub, Array.replicate_succ, Array.replicate_zero, List.push_toArray, List.append_toArray, List.nil_append, List.cons_append]
    go_wp2
    go_step3
    go_wp2
    rw [Exit.noGoto_ret]
    exact leaves_plain3 rfl ⟨rfl, hB⟩
  · have h2 : ¬ (l.length : Int) ≤ 16 := by omega
    have h3 : 16 < (l.length : Int) := by omega
    refine calls_marksP Try.func19 rfl ?_
    simp only [Try.ntmps19, List.size_toArray, List.length_cons, List.length_nil, Nat.reduceAdd, Nat.reduceSub, Array.replicate_succ, Array.replicate_zero, List.push_toArray, List.append_toArray, List.nil_append, List.cons_append]
    go_wp2
    go_step3
    go_wp2
    rw [Exit.noGoto_ret]
    exact leaves_plain3 rfl ⟨rfl, hB⟩
set_option maxRecDepth 100000 in
set_option maxHeartbeats 1000000 in
theorem decided_bad (A : Option Addr) (c : Nat) (l : List Vt) (w : World) (ha : ArgAt w 3 A l.length (cellsVs l)) (h1 : 1 ≤ l.length) (h2 : l.length ≤ 16) (hok : ∀ x ∈ l, x.ok) (hr : l.all rightB = false) :
    Calls Try.prog 19 #[.slice A l.length c] w fun e w' => e = .returned (.tuple #[.string ⟨#[]⟩, .bool false, .int .i64 2]) ∧ Below w.heap.size w w' := by
  have HR := Lib.hid (fun w1 h => areRight_any A c l w1 h (by omega) hok)
  rw [hr] at HR
  have HA := Lib.hid ha
  clear ha hr
  refine calls_marksP Try.func19 rfl ?_
  simp only [Try.ntmps19, List.size_toArray, List.length_cons, List.length_nil, Nat.reduceAdd, Nat.reduceSub, Array.replicate_succ, Array.replicate_zero, List.push_toArray, List.append_toArray, List.nil_append, List.cons_append]
  go_wp2
  go_step3
  go_wp2_with (go_at_call 26; refine (HR.out _ (HA.out.alloc _)).mono ?_; rintro e w1 ⟨rfl, hb1⟩)
  rw [Exit.noGoto_ret]
  exact leaves_plain3 rfl ⟨rfl, below1 hb1⟩
theorem decided_any (A : Option Addr) (c : Nat) (l : List Vt) (w : World) (ha : ArgAt w 3 A l.length (cellsVs l)) (hl : l.length ≤ maxLen) (hok : ∀ x ∈ l, x.ok) :
    Calls Try.prog 19 #[.slice A l.length c] w fun e w' => e = .returned (.tuple #[.string (mdec l).1.1, .bool (mdec l).1.2, .int .i64 (mdec l).2]) ∧ Below w.heap.size w w' := by
  by_cases h : 1 ≤ l.length ∧ l.length ≤ 16
  · cases hr : l.all rightB
    · rw [mdec_bad h.1 h.2 hr]; exact decided_bad A c l w ha h.1 h.2 hok hr
    · exact decided_yes A c l w ha h.1 h.2 hok hr
  · rw [mdec_group h]; exact decided_no A c l w hl h
end Go.Proofs.Ytcfaeddjohpohaa
