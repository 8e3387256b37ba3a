/-
  Promising and voting: what the functions of ballot and of its reference compute. Conditions: strings are at most as long as Go allows.
-/
import Derived.Test.YtcfaeddjohpohaaBalA
namespace Go.Proofs.Ytcfaeddjohpohaa
open Go.RowKit Go.Shelf Ros
attribute [local go_sem] Oper.semAt_some

set_option maxHeartbeats 1000000 in
theorem prom_any (v : Vt) (n : Nat) (w : World) (hv : v.ok) (hn : n < 18446744073709551616) :
    Calls Try.prog 12 #[.agg #[.int .u64 (v.p : Int), .int .u64 (v.b : Int), .string v.s], .int .u64 (n : Int)] w fun e w' => e = .returned (.tuple #[.agg #[.int .u64 ((mprom v n).1.p : Int), .int .u64 ((mprom v n).1.b : Int), .string (mprom v n).1.s], .int .i64 (mprom v n).2]) ∧ Below w.heap.size w w' := by
  have HR := Lib.hid (fun w => right_any v w hv)
  by_cases hr : rightB v = true
  · rw [hr] at HR
    by_cases h1 : 1 ≤ n
    · by_cases h2 : n ≤ v.p
      · rw [mprom_low ⟨hr, h1⟩ h2]
        clear hr
        go_enter Try.func12, Try.ntmps12
        go_wp2_with (go_at_call 16; refine (HR.out _).mono ?_; rintro e w1 ⟨rfl, hb⟩; obtain ⟨h1, h2⟩ := boxes2 hb; obtain ⟨a0, a1, a2, f0, f1, f2, z0⟩ := cells3 h1; obtain ⟨b0, b1, b2, g0, g1, g2, z1⟩ := cells3 h2; have HB := Lib.hid (below2 hb); clear hb h1 h2)
        refine bodyPost_ret (v := .tuple #[.agg #[.int .u64 0, .int .u64 0, .string ⟨#[]⟩], .int .i64 80]) ?_ rfl ⟨rfl, ?_⟩
        · rw [results_cell_tmp rfl]
          go_simp
        · repeat first | exact HB.out | (refine Below.alloc ?_ (by first | omega | (simp; omega)) _) | (refine Below.setCell ?_ (by simp; try omega) _)
      · rw [mprom_yes ⟨hr, h1⟩ (by omega)]
        clear hr
        go_enter Try.func12, Try.ntmps12
        go_wp2_with (go_at_call 16; refine (HR.out _).mono ?_; rintro e w1 ⟨rfl, hb⟩; obtain ⟨h1, h2⟩ := boxes2 hb; obtain ⟨a0, a1, a2, f0, f1, f2, z0⟩ := cells3 h1; obtain ⟨b0, b1, b2, g0, g1, g2, z1⟩ := cells3 h2; have HB := Lib.hid (below2 hb); clear hb h1 h2)
        refine bodyPost_ret (v := .tuple #[.agg #[.int .u64 (n : Int), .int .u64 (v.b : Int), .string v.s], .int .i64 0]) ?_ rfl ⟨rfl, ?_⟩
        · rw [results_cell_tmp rfl]
          go_simp
        · repeat first | exact HB.out | (refine Below.alloc ?_ (by first | omega | (simp; omega)) _) | (refine Below.setCell ?_ (by simp; try omega) _)
    · rw [mprom_bad (fun h => h1 h.2)]
      clear hr
      go_enter Try.func12, Try.ntmps12
      go_wp2_with (go_at_call 16; refine (HR.out _).mono ?_; rintro e w1 ⟨rfl, hb⟩; obtain ⟨h1, h2⟩ := boxes2 hb; obtain ⟨a0, a1, a2, f0, f1, f2, z0⟩ := cells3 h1; obtain ⟨b0, b1, b2, g0, g1, g2, z1⟩ := cells3 h2; have HB := Lib.hid (below2 hb); clear hb h1 h2)
      refine bodyPost_ret (v := .tuple #[.agg #[.int .u64 0, .int .u64 0, .string ⟨#[]⟩], .int .i64 2]) ?_ rfl ⟨rfl, ?_⟩
      · rw [results_cell_tmp rfl]
        go_simp
      · repeat first | exact HB.out | (refine Below.alloc ?_ (by first | omega | (simp; omega)) _) | (refine Below.setCell ?_ (by simp; try omega) _)
  · rw [mprom_bad (fun h => hr h.1)]
    rw [Bool.eq_false_iff.2 hr] at HR
    clear hr
    go_enter Try.func12, Try.ntmps12
    go_wp2_with (go_at_call 16; refine (HR.out _).mono ?_; rintro e w1 ⟨rfl, hb⟩; obtain ⟨h1, h2⟩ := boxes2 hb; obtain ⟨a0, a1, a2, f0, f1, f2, z0⟩ := cells3 h1; obtain ⟨b0, b1, b2, g0, g1, g2, z1⟩ := cells3 h2; have HB := Lib.hid (below2 hb); clear hb h1 h2)
    refine bodyPost_ret (v := .tuple #[.agg #[.int .u64 0, .int .u64 0, .string ⟨#[]⟩], .int .i64 2]) ?_ rfl ⟨rfl, ?_⟩
    · rw [results_cell_tmp rfl]
      go_simp
    · repeat first | exact HB.out | (refine Below.alloc ?_ (by first | omega | (simp; omega)) _) | (refine Below.setCell ?_ (by simp; try omega) _)
set_option maxHeartbeats 1000000 in
theorem cast_any (v : Vt) (n : Nat) (s : ByteArray) (w : World) (hv : v.ok) (hn : n < 18446744073709551616) (hs : s.size ≤ 140737488355328) :
    Calls Try.prog 14 #[.agg #[.int .u64 (v.p : Int), .int .u64 (v.b : Int), .string v.s], .int .u64 (n : Int), .string s] w fun e w' => e = .returned (.tuple #[.agg #[.int .u64 ((mcast v n s).1.p : Int), .int .u64 ((mcast v n s).1.b : Int), .string (mcast v n s).1.s], .int .i64 (mcast v n s).2]) ∧ Below w.heap.size w w' := by
  have HR := Lib.hid (fun w => right_any v w hv)
  by_cases hr : rightB v = true
  · rw [hr] at HR
    by_cases h1 : 1 ≤ n
    · by_cases h3 : s.size ≤ 4000
      · have h3' : decide (s.size ≤ 4000) = true := by simp [h3]
        by_cases h2 : n < v.p
        · rw [mcast_low ⟨hr, h1, h3⟩ h2]
          clear hr
          go_enter Try.func14, Try.ntmps14
          go_wp2_with (first | (go_at_call 16; refine (HR.out _).mono ?_; rintro e w1 ⟨rfl, hb⟩; obtain ⟨h1, h2⟩ := boxes2 hb; obtain ⟨a0, a1, a2, f0, f1, f2, z0⟩ := cells3 h1; obtain ⟨b0, b1, b2, g0, g1, g2, z1⟩ := cells3 h2; have HB := Lib.hid (below2 hb); clear hb h1 h2) | (go_at_call 25; refine (fits_any _ s _ (cell_row (World.alloc_heap_new _ _) 0) (by unfold maxLen; omega)).mono ?_; rintro e w2 ⟨rfl, rfl⟩))
          refine bodyPost_ret (v := .tuple #[.agg #[.int .u64 0, .int .u64 0, .string ⟨#[]⟩], .int .i64 80]) ?_ rfl ⟨rfl, ?_⟩
          · rw [results_cell_tmp rfl]
            go_simp
          · repeat first | exact HB.out | (refine Below.alloc ?_ (by first | omega | (simp; omega)) _) | (refine Below.setCell ?_ (by simp; try omega) _)
        · rw [mcast_yes ⟨hr, h1, h3⟩ (by omega)]
          clear hr
          go_enter Try.func14, Try.ntmps14
          go_wp2_with (first | (go_at_call 16; refine (HR.out _).mono ?_; rintro e w1 ⟨rfl, hb⟩; obtain ⟨h1, h2⟩ := boxes2 hb; obtain ⟨a0, a1, a2, f0, f1, f2, z0⟩ := cells3 h1; obtain ⟨b0, b1, b2, g0, g1, g2, z1⟩ := cells3 h2; have HB := Lib.hid (below2 hb); clear hb h1 h2) | (go_at_call 25; refine (fits_any _ s _ (cell_row (World.alloc_heap_new _ _) 0) (by unfold maxLen; omega)).mono ?_; rintro e w2 ⟨rfl, rfl⟩))
          refine bodyPost_ret (v := .tuple #[.agg #[.int .u64 (n : Int), .int .u64 (n : Int), .string s], .int .i64 0]) ?_ rfl ⟨rfl, ?_⟩
          · rw [results_cell_tmp rfl]
            go_simp
          · repeat first | exact HB.out | (refine Below.alloc ?_ (by first | omega | (simp; omega)) _) | (refine Below.setCell ?_ (by simp; try omega) _)
      · have h3' : decide (s.size ≤ 4000) = false := by simp; omega
        rw [mcast_bad (fun h => h3 h.2.2)]
        clear hr
        go_enter Try.func14, Try.ntmps14
        go_wp2_with (first | (go_at_call 16; refine (HR.out _).mono ?_; rintro e w1 ⟨rfl, hb⟩; obtain ⟨h1, h2⟩ := boxes2 hb; obtain ⟨a0, a1, a2, f0, f1, f2, z0⟩ := cells3 h1; obtain ⟨b0, b1, b2, g0, g1, g2, z1⟩ := cells3 h2; have HB := Lib.hid (below2 hb); clear hb h1 h2) | (go_at_call 25; refine (fits_any _ s _ (cell_row (World.alloc_heap_new _ _) 0) (by unfold maxLen; omega)).mono ?_; rintro e w2 ⟨rfl, rfl⟩))
        refine bodyPost_ret (v := .tuple #[.agg #[.int .u64 0, .int .u64 0, .string ⟨#[]⟩], .int .i64 2]) ?_ rfl ⟨rfl, ?_⟩
        · rw [results_cell_tmp rfl]
          go_simp
        · repeat first | exact HB.out | (refine Below.alloc ?_ (by first | omega | (simp; omega)) _) | (refine Below.setCell ?_ (by simp; try omega) _)
    · rw [mcast_bad (fun h => h1 h.2.1)]
      clear hr
      go_enter Try.func14, Try.ntmps14
      go_wp2_with (go_at_call 16; refine (HR.out _).mono ?_; rintro e w1 ⟨rfl, hb⟩; obtain ⟨h1, h2⟩ := boxes2 hb; obtain ⟨a0, a1, a2, f0, f1, f2, z0⟩ := cells3 h1; obtain ⟨b0, b1, b2, g0, g1, g2, z1⟩ := cells3 h2; have HB := Lib.hid (below2 hb); clear hb h1 h2)
      refine bodyPost_ret (v := .tuple #[.agg #[.int .u64 0, .int .u64 0, .string ⟨#[]⟩], .int .i64 2]) ?_ rfl ⟨rfl, ?_⟩
      · rw [results_cell_tmp rfl]
        go_simp
      · repeat first | exact HB.out | (refine Below.alloc ?_ (by first | omega | (simp; omega)) _) | (refine Below.setCell ?_ (by simp; try omega) _)
  · rw [mcast_bad (fun h => hr h.1)]
    rw [Bool.eq_false_iff.2 hr] at HR
    clear hr
    go_enter Try.func14, Try.ntmps14
    go_wp2_with (go_at_call 16; refine (HR.out _).mono ?_; rintro e w1 ⟨rfl, hb⟩; obtain ⟨h1, h2⟩ := boxes2 hb; obtain ⟨a0, a1, a2, f0, f1, f2, z0⟩ := cells3 h1; obtain ⟨b0, b1, b2, g0, g1, g2, z1⟩ := cells3 h2; have HB := Lib.hid (below2 hb); clear hb h1 h2)
    refine bodyPost_ret (v := .tuple #[.agg #[.int .u64 0, .int .u64 0, .string ⟨#[]⟩], .int .i64 2]) ?_ rfl ⟨rfl, ?_⟩
    · rw [results_cell_tmp rfl]
      go_simp
    · repeat first | exact HB.out | (refine Below.alloc ?_ (by first | omega | (simp; omega)) _) | (refine Below.setCell ?_ (by simp; try omega) _)
set_option maxHeartbeats 1000000 in
theorem refprom_any (v : Vt) (n : Nat) (w : World) (hv : v.ok) (hn : n < 18446744073709551616) :
    Calls Try.prog 13 #[.agg #[.int .u64 (v.p : Int), .int .u64 (v.b : Int), .string v.s], .int .u64 (n : Int)] w fun e w' => e = .returned (.tuple #[.agg #[.int .u64 ((mprom v n).1.p : Int), .int .u64 ((mprom v n).1.b : Int), .string (mprom v n).1.s], .int .i64 (mprom v n).2]) ∧ Below w.heap.size w w' := by
  have HR := Lib.hid (fun w => refright_any v w hv)
  by_cases hr : rightB v = true
  · rw [hr] at HR
    by_cases h1 : 1 ≤ n
    · by_cases h2 : n ≤ v.p
      · rw [mprom_low ⟨hr, h1⟩ h2]
        clear hr
        go_enter Try.func13, Try.ntmps13
        go_wp2_with (go_at_call 17; refine (HR.out _).mono ?_; rintro e w1 ⟨rfl, hb⟩; obtain ⟨h1, h2⟩ := boxes2 hb; obtain ⟨a0, a1, a2, f0, f1, f2, z0⟩ := cells3 h1; obtain ⟨b0, b1, b2, g0, g1, g2, z1⟩ := cells3 h2; have HB := Lib.hid (below2 hb); clear hb h1 h2)
        refine bodyPost_ret (v := .tuple #[.agg #[.int .u64 0, .int .u64 0, .string ⟨#[]⟩], .int .i64 80]) ?_ rfl ⟨rfl, ?_⟩
        · rw [results_cell_tmp rfl]
          go_simp
        · repeat first | exact HB.out | (refine Below.alloc ?_ (by first | omega | (simp; omega)) _) | (refine Below.setCell ?_ (by simp; try omega) _)
      · rw [mprom_yes ⟨hr, h1⟩ (by omega)]
        clear hr
        go_enter Try.func13, Try.ntmps13
        go_wp2_with (go_at_call 17; refine (HR.out _).mono ?_; rintro e w1 ⟨rfl, hb⟩; obtain ⟨h1, h2⟩ := boxes2 hb; obtain ⟨a0, a1, a2, f0, f1, f2, z0⟩ := cells3 h1; obtain ⟨b0, b1, b2, g0, g1, g2, z1⟩ := cells3 h2; have HB := Lib.hid (below2 hb); clear hb h1 h2)
        refine bodyPost_ret (v := .tuple #[.agg #[.int .u64 (n : Int), .int .u64 (v.b : Int), .string v.s], .int .i64 0]) ?_ rfl ⟨rfl, ?_⟩
        · rw [results_cell_tmp rfl]
          go_simp
        · repeat first | exact HB.out | (refine Below.alloc ?_ (by first | omega | (simp; omega)) _) | (refine Below.setCell ?_ (by simp; try omega) _)
    · rw [mprom_bad (fun h => h1 h.2)]
      clear hr
      go_enter Try.func13, Try.ntmps13
      go_wp2_with (go_at_call 17; refine (HR.out _).mono ?_; rintro e w1 ⟨rfl, hb⟩; obtain ⟨h1, h2⟩ := boxes2 hb; obtain ⟨a0, a1, a2, f0, f1, f2, z0⟩ := cells3 h1; obtain ⟨b0, b1, b2, g0, g1, g2, z1⟩ := cells3 h2; have HB := Lib.hid (below2 hb); clear hb h1 h2)
      refine bodyPost_ret (v := .tuple #[.agg #[.int .u64 0, .int .u64 0, .string ⟨#[]⟩], .int .i64 2]) ?_ rfl ⟨rfl, ?_⟩
      · rw [results_cell_tmp rfl]
        go_simp
      · repeat first | exact HB.out | (refine Below.alloc ?_ (by first | omega | (simp; omega)) _) | (refine Below.setCell ?_ (by simp; try omega) _)
  · rw [mprom_bad (fun h => hr h.1)]
    rw [Bool.eq_false_iff.2 hr] at HR
    clear hr
    go_enter Try.func13, Try.ntmps13
    go_wp2_with (go_at_call 17; refine (HR.out _).mono ?_; rintro e w1 ⟨rfl, hb⟩; obtain ⟨h1, h2⟩ := boxes2 hb; obtain ⟨a0, a1, a2, f0, f1, f2, z0⟩ := cells3 h1; obtain ⟨b0, b1, b2, g0, g1, g2, z1⟩ := cells3 h2; have HB := Lib.hid (below2 hb); clear hb h1 h2)
    refine bodyPost_ret (v := .tuple #[.agg #[.int .u64 0, .int .u64 0, .string ⟨#[]⟩], .int .i64 2]) ?_ rfl ⟨rfl, ?_⟩
    · rw [results_cell_tmp rfl]
      go_simp
    · repeat first | exact HB.out | (refine Below.alloc ?_ (by first | omega | (simp; omega)) _) | (refine Below.setCell ?_ (by simp; try omega) _)
set_option maxHeartbeats 1000000 in
theorem refcast_any (v : Vt) (n : Nat) (s : ByteArray) (w : World) (hv : v.ok) (hn : n < 18446744073709551616) (hs : s.size ≤ 140737488355328) :
    Calls Try.prog 15 #[.agg #[.int .u64 (v.p : Int), .int .u64 (v.b : Int), .string v.s], .int .u64 (n : Int), .string s] w fun e w' => e = .returned (.tuple #[.agg #[.int .u64 ((mcast v n s).1.p : Int), .int .u64 ((mcast v n s).1.b : Int), .string (mcast v n s).1.s], .int .i64 (mcast v n s).2]) ∧ Below w.heap.size w w' := by
  have HR := Lib.hid (fun w => refright_any v w hv)
  by_cases hr : rightB v = true
  · rw [hr] at HR
    by_cases h1 : 1 ≤ n
    · by_cases h3 : s.size ≤ 4000
      · have h3' : decide (s.size ≤ 4000) = true := by simp [h3]
        by_cases h2 : n < v.p
        · rw [mcast_low ⟨hr, h1, h3⟩ h2]
          clear hr
          go_enter Try.func15, Try.ntmps15
          go_wp2_with (go_at_call 17; refine (HR.out _).mono ?_; rintro e w1 ⟨rfl, hb⟩; obtain ⟨h1, h2⟩ := boxes2 hb; obtain ⟨a0, a1, a2, f0, f1, f2, z0⟩ := cells3 h1; obtain ⟨b0, b1, b2, g0, g1, g2, z1⟩ := cells3 h2; have HB := Lib.hid (below2 hb); clear hb h1 h2)
          refine bodyPost_ret (v := .tuple #[.agg #[.int .u64 0, .int .u64 0, .string ⟨#[]⟩], .int .i64 80]) ?_ rfl ⟨rfl, ?_⟩
          · rw [results_cell_tmp rfl]
            go_simp
          · repeat first | exact HB.out | (refine Below.alloc ?_ (by first | omega | (simp; omega)) _) | (refine Below.setCell ?_ (by simp; try omega) _)
        · rw [mcast_yes ⟨hr, h1, h3⟩ (by omega)]
          clear hr
          go_enter Try.func15, Try.ntmps15
          go_wp2_with (go_at_call 17; refine (HR.out _).mono ?_; rintro e w1 ⟨rfl, hb⟩; obtain ⟨h1, h2⟩ := boxes2 hb; obtain ⟨a0, a1, a2, f0, f1, f2, z0⟩ := cells3 h1; obtain ⟨b0, b1, b2, g0, g1, g2, z1⟩ := cells3 h2; have HB := Lib.hid (below2 hb); clear hb h1 h2)
          refine bodyPost_ret (v := .tuple #[.agg #[.int .u64 (n : Int), .int .u64 (n : Int), .string s], .int .i64 0]) ?_ rfl ⟨rfl, ?_⟩
          · rw [results_cell_tmp rfl]
            go_simp
          · repeat first | exact HB.out | (refine Below.alloc ?_ (by first | omega | (simp; omega)) _) | (refine Below.setCell ?_ (by simp; try omega) _)
      · have h3' : decide (s.size ≤ 4000) = false := by simp; omega
        rw [mcast_bad (fun h => h3 h.2.2)]
        clear hr
        go_enter Try.func15, Try.ntmps15
        go_wp2_with (go_at_call 17; refine (HR.out _).mono ?_; rintro e w1 ⟨rfl, hb⟩; obtain ⟨h1, h2⟩ := boxes2 hb; obtain ⟨a0, a1, a2, f0, f1, f2, z0⟩ := cells3 h1; obtain ⟨b0, b1, b2, g0, g1, g2, z1⟩ := cells3 h2; have HB := Lib.hid (below2 hb); clear hb h1 h2)
        refine bodyPost_ret (v := .tuple #[.agg #[.int .u64 0, .int .u64 0, .string ⟨#[]⟩], .int .i64 2]) ?_ rfl ⟨rfl, ?_⟩
        · rw [results_cell_tmp rfl]
          go_simp
        · repeat first | exact HB.out | (refine Below.alloc ?_ (by first | omega | (simp; omega)) _) | (refine Below.setCell ?_ (by simp; try omega) _)
    · rw [mcast_bad (fun h => h1 h.2.1)]
      clear hr
      go_enter Try.func15, Try.ntmps15
      go_wp2_with (go_at_call 17; refine (HR.out _).mono ?_; rintro e w1 ⟨rfl, hb⟩; obtain ⟨h1, h2⟩ := boxes2 hb; obtain ⟨a0, a1, a2, f0, f1, f2, z0⟩ := cells3 h1; obtain ⟨b0, b1, b2, g0, g1, g2, z1⟩ := cells3 h2; have HB := Lib.hid (below2 hb); clear hb h1 h2)
      refine bodyPost_ret (v := .tuple #[.agg #[.int .u64 0, .int .u64 0, .string ⟨#[]⟩], .int .i64 2]) ?_ rfl ⟨rfl, ?_⟩
      · rw [results_cell_tmp rfl]
        go_simp
      · repeat first | exact HB.out | (refine Below.alloc ?_ (by first | omega | (simp; omega)) _) | (refine Below.setCell ?_ (by simp; try omega) _)
  · rw [mcast_bad (fun h => hr h.1)]
    rw [Bool.eq_false_iff.2 hr] at HR
    clear hr
    go_enter Try.func15, Try.ntmps15
    go_wp2_with (go_at_call 17; refine (HR.out _).mono ?_; rintro e w1 ⟨rfl, hb⟩; obtain ⟨h1, h2⟩ := boxes2 hb; obtain ⟨a0, a1, a2, f0, f1, f2, z0⟩ := cells3 h1; obtain ⟨b0, b1, b2, g0, g1, g2, z1⟩ := cells3 h2; have HB := Lib.hid (below2 hb); clear hb h1 h2)
    refine bodyPost_ret (v := .tuple #[.agg #[.int .u64 0, .int .u64 0, .string ⟨#[]⟩], .int .i64 2]) ?_ rfl ⟨rfl, ?_⟩
    · rw [results_cell_tmp rfl]
      go_simp
    · repeat first | exact HB.out | (refine Below.alloc ?_ (by first | omega | (simp; omega)) _) | (refine Below.setCell ?_ (by simp; try omega) _)
end Go.Proofs.Ytcfaeddjohpohaa
