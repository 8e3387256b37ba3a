/-
  What a record of a ballot tells; read, whole. Conditions: strings are at most as long as Go allows.
-/
import Derived.Test.YtlboeaapmfpipaaRdA
import Derived.BigRegion
namespace Go.Proofs.Ytlboeaapmfpipaa
open Go.RowKit Go.Shelf Ros
attribute [local go_sem] Oper.semAt_some
set_option maxHeartbeats 1000000 in
theorem readN_v_no (s : ByteArray) (w : World) (h5 : 5 ≤ s.size) (h13 : 13 ≤ s.size) (hm : s.size ≤ 140737488355328) (m : Nat) (he : instOf s = m) (hi : 1 ≤ m ∧ m ≤ 10000) (h0 : 0 < s.size) (q : Nat) (hqe : numB (s.extract 5 13) = q) (hq : ¬ 1 ≤ q) (hk : s[0].toNat = 118) :
    Calls Try.prog 30 #[.string s] w fun e w' => e = .returned (.tuple #[encTold ⟨118, m, q, s.extract 13 s.size⟩, .bool false]) ∧ Below w.heap.size w w' := by
  have hd : decide ((s.size : Int) < 5) = false := by simp; omega
  have h1 : (s.extract 1 5).size = 4 := by rw [ByteArray.size_extract]; omega
  have hsl := sl_ab (P := Try.prog) Try.underlying9 s 1 5 (by omega) (by omega) 1 5 rfl rfl
  have HA := Lib.hid (fun W => get_yes (s.extract 1 5) W h1)
  have HI := Lib.hid (fun W : World => isInst_any (m : Int) W)
  have hz : isI (m : Int) = true := by rw [isI_iff]; omega
  rw [hz] at HI
  have h8 : (s.extract 5 13).size = 8 := by rw [ByteArray.size_extract]; omega
  have h6 : (s.extract 13 s.size).size = s.size - 13 := by rw [ByteArray.size_extract]; omega
  have hsl5 := sl_ab (P := Try.prog) Try.underlying9 s 5 13 (by omega) (by omega) 5 13 rfl rfl
  have hsl13 := sl_l (P := Try.prog) Try.underlying9 s 13 (by omega) 13 rfl
  have HN := Lib.hid (fun W => number_any (s.extract 5 13) W h8)
  rw [hqe] at HN
  clear hqe
  unfold instOf at he
  rw [he] at HA
  clear he
  clear h1 hz
  have hgd : decide ((m : Int) > 10000) = false := by simp; omega
  have h13d : decide ((s.size : Int) < 13) = false := by simp; omega
  have hqd : decide ((q : Int) ≥ 1) = false := by simp; omega
  go_enter Try.func30, Try.ntmps30
  go_wp2_with (first
    | (go_at_call 35; (with_reducible refine (HA.out _).mono ?_); rintro e w1 ⟨rfl, hb⟩; obtain ⟨a0, a1, a2, a3, f0, f1, f2, f3, z0⟩ := cells4f (boxes1 hb); have HX := Lib.hid (boxes1 hb); have HB := Lib.hid (below1 hb); clear hb)
    | (go_at_call 28; (with_reducible refine (HI.out _).mono ?_); rintro e w2 ⟨rfl, rfl⟩)
    | (go_at_call 36; (with_reducible refine (HN.out _).mono ?_); rintro e w3 ⟨rfl, hb⟩; have HY := Lib.hid (boxes1 hb); have HZ := Lib.hid (obj_below (obj_alloc HX.out _) hb (by simp; omega)); obtain ⟨c0, c1, c2, c3, g0, g1, g2, g3, z1⟩ := cells4f HY.out; obtain ⟨d0, d1, d2, d3, i0, i1, i2, i3, z2⟩ := cells4f HZ.out; have HB2 := Lib.hid (bt HB.out (below1 hb)); clear hb a0 a1 a2 a3 f0 f1 f2 f3))
  have hne : w.heap.size ≠ w1.heap.size := by omega
  have HY2 := Lib.hid (obj_set (obj_set HY.out 2 (.int .u64 (q : Int))) 3 (.string (s.extract 13 s.size)))
  have HZ2 := Lib.hid (obj_far (obj_far HZ.out (p := ⟨w1.heap.size, 2, none⟩) hne (.int .u64 (q : Int))) (p := ⟨w1.heap.size, 3, none⟩) hne (.string (s.extract 13 s.size)))
  have HB3 := Lib.hid ((HB2.out.setCell (p := ⟨w1.heap.size, 2, none⟩) (by simp; omega) (.int .u64 (q : Int))).setCell (p := ⟨w1.heap.size, 3, none⟩) (by simp; omega) (.string (s.extract 13 s.size)))
  generalize (w3.setCell ⟨w1.heap.size, 2, none⟩ (.int .u64 (q : Int))).setCell ⟨w1.heap.size, 3, none⟩ (.string (s.extract 13 s.size)) = w4 at *
  simp only [List.setIfInBounds_toArray, List.set_cons_succ, List.set_cons_zero] at HY2
  clear c0 c1 c2 c3 g0 g1 g2 g3 z1 d0 d1 d2 d3 i0 i1 i2 i3 z2 HY HZ HB2 hne
  obtain ⟨c0, c1, c2, c3, g0, g1, g2, g3, z1⟩ := cells4f HY2.out
  obtain ⟨d0, d1, d2, d3, i0, i1, i2, i3, z2⟩ := cells4f HZ2.out
  go_region
  all_goals
    go_wp2
    refine bodyPost_ret (v := .tuple #[encTold ⟨118, m, q, s.extract 13 s.size⟩, .bool false]) ?_ rfl ⟨rfl, ?_⟩
    · rw [results_cell_tmp rfl]
      go_simp
      rfl
    · repeat first | exact HB3.out | (refine Below.alloc ?_ (by first | omega | (simp; omega)) _) | (refine Below.setCell ?_ (by simp; try omega) _) | refine Below.drew ?_
set_option maxHeartbeats 1000000 in
theorem readN_v_yes (s : ByteArray) (w : World) (h5 : 5 ≤ s.size) (h13 : 13 ≤ s.size) (hm : s.size ≤ 140737488355328) (m : Nat) (he : instOf s = m) (hi : 1 ≤ m ∧ m ≤ 10000) (h0 : 0 < s.size) (q : Nat) (hqe : numB (s.extract 5 13) = q) (hq : 1 ≤ q) (hk : s[0].toNat = 118) :
    Calls Try.prog 30 #[.string s] w fun e w' => e = .returned (.tuple #[encTold ⟨118, m, q, s.extract 13 s.size⟩, .bool (decide (s.size - 13 ≤ 4000))]) ∧ Below w.heap.size w w' := by
  have hd : decide ((s.size : Int) < 5) = false := by simp; omega
  have h1 : (s.extract 1 5).size = 4 := by rw [ByteArray.size_extract]; omega
  have hsl := sl_ab (P := Try.prog) Try.underlying9 s 1 5 (by omega) (by omega) 1 5 rfl rfl
  have HA := Lib.hid (fun W => get_yes (s.extract 1 5) W h1)
  have HI := Lib.hid (fun W : World => isInst_any (m : Int) W)
  have hz : isI (m : Int) = true := by rw [isI_iff]; omega
  rw [hz] at HI
  have h8 : (s.extract 5 13).size = 8 := by rw [ByteArray.size_extract]; omega
  have h6 : (s.extract 13 s.size).size = s.size - 13 := by rw [ByteArray.size_extract]; omega
  have hsl5 := sl_ab (P := Try.prog) Try.underlying9 s 5 13 (by omega) (by omega) 5 13 rfl rfl
  have hsl13 := sl_l (P := Try.prog) Try.underlying9 s 13 (by omega) 13 rfl
  have HN := Lib.hid (fun W => number_any (s.extract 5 13) W h8)
  rw [hqe] at HN
  clear hqe
  unfold instOf at he
  rw [he] at HA
  clear he
  clear h1 hz
  have hgd : decide ((m : Int) > 10000) = false := by simp; omega
  have h13d : decide ((s.size : Int) < 13) = false := by simp; omega
  have hqd : decide ((q : Int) ≥ 1) = true := by simp; omega
  go_enter Try.func30, Try.ntmps30
  go_wp2_with (first
    | (go_at_call 35; (with_reducible refine (HA.out _).mono ?_); rintro e w1 ⟨rfl, hb⟩; obtain ⟨a0, a1, a2, a3, f0, f1, f2, f3, z0⟩ := cells4f (boxes1 hb); have HX := Lib.hid (boxes1 hb); have HB := Lib.hid (below1 hb); clear hb)
    | (go_at_call 28; (with_reducible refine (HI.out _).mono ?_); rintro e w2 ⟨rfl, rfl⟩)
    | (go_at_call 36; (with_reducible refine (HN.out _).mono ?_); rintro e w3 ⟨rfl, hb⟩; have HY := Lib.hid (boxes1 hb); have HZ := Lib.hid (obj_below (obj_alloc HX.out _) hb (by simp; omega)); obtain ⟨c0, c1, c2, c3, g0, g1, g2, g3, z1⟩ := cells4f HY.out; obtain ⟨d0, d1, d2, d3, i0, i1, i2, i3, z2⟩ := cells4f HZ.out; have HB2 := Lib.hid (bt HB.out (below1 hb)); clear hb a0 a1 a2 a3 f0 f1 f2 f3))
  have hne : w.heap.size ≠ w1.heap.size := by omega
  have HY2 := Lib.hid (obj_set (obj_set HY.out 2 (.int .u64 (q : Int))) 3 (.string (s.extract 13 s.size)))
  have HZ2 := Lib.hid (obj_far (obj_far HZ.out (p := ⟨w1.heap.size, 2, none⟩) hne (.int .u64 (q : Int))) (p := ⟨w1.heap.size, 3, none⟩) hne (.string (s.extract 13 s.size)))
  have HB3 := Lib.hid ((HB2.out.setCell (p := ⟨w1.heap.size, 2, none⟩) (by simp; omega) (.int .u64 (q : Int))).setCell (p := ⟨w1.heap.size, 3, none⟩) (by simp; omega) (.string (s.extract 13 s.size)))
  generalize (w3.setCell ⟨w1.heap.size, 2, none⟩ (.int .u64 (q : Int))).setCell ⟨w1.heap.size, 3, none⟩ (.string (s.extract 13 s.size)) = w4 at *
  simp only [List.setIfInBounds_toArray, List.set_cons_succ, List.set_cons_zero] at HY2
  clear c0 c1 c2 c3 g0 g1 g2 g3 z1 d0 d1 d2 d3 i0 i1 i2 i3 z2 HY HZ HB2 hne
  obtain ⟨c0, c1, c2, c3, g0, g1, g2, g3, z1⟩ := cells4f HY2.out
  obtain ⟨d0, d1, d2, d3, i0, i1, i2, i3, z2⟩ := cells4f HZ2.out
  go_region
  all_goals
    go_wp2
    refine bodyPost_ret (v := .tuple #[encTold ⟨118, m, q, s.extract 13 s.size⟩, .bool (decide (s.size - 13 ≤ 4000))]) ?_ rfl ⟨rfl, ?_⟩
    · rw [results_cell_tmp rfl]
      go_simp
      exact ⟨rfl, by omega⟩
    · repeat first | exact HB3.out | (refine Below.alloc ?_ (by first | omega | (simp; omega)) _) | (refine Below.setCell ?_ (by simp; try omega) _) | refine Below.drew ?_
end Go.Proofs.Ytlboeaapmfpipaa
namespace Go.Proofs.Ytlboeaapmfpipaa
open Go.RowKit Go.Shelf Ros
attribute [local go_sem] Oper.semAt_some
set_option maxHeartbeats 1000000 in
theorem readN_p_long (s : ByteArray) (w : World) (h5 : 5 ≤ s.size) (h13 : 13 < s.size) (hm : s.size ≤ 140737488355328) (m : Nat) (he : instOf s = m) (hi : 1 ≤ m ∧ m ≤ 10000) (h0 : 0 < s.size) (q : Nat) (hqe : numB (s.extract 5 13) = q) (hk : s[0].toNat = 112) :
    Calls Try.prog 30 #[.string s] w fun e w' => e = .returned (.tuple #[tv0, .bool false]) ∧ Below w.heap.size w w' := by
  have hd : decide ((s.size : Int) < 5) = false := by simp; omega
  have h1 : (s.extract 1 5).size = 4 := by rw [ByteArray.size_extract]; omega
  have hsl := sl_ab (P := Try.prog) Try.underlying9 s 1 5 (by omega) (by omega) 1 5 rfl rfl
  have HA := Lib.hid (fun W => get_yes (s.extract 1 5) W h1)
  have HI := Lib.hid (fun W : World => isInst_any (m : Int) W)
  have hz : isI (m : Int) = true := by rw [isI_iff]; omega
  rw [hz] at HI
  have h8 : (s.extract 5 13).size = 8 := by rw [ByteArray.size_extract]; omega
  have h6 : (s.extract 13 s.size).size = s.size - 13 := by rw [ByteArray.size_extract]; omega
  have hsl5 := sl_ab (P := Try.prog) Try.underlying9 s 5 13 (by omega) (by omega) 5 13 rfl rfl
  have hsl13 := sl_l (P := Try.prog) Try.underlying9 s 13 (by omega) 13 rfl
  have HN := Lib.hid (fun W => number_any (s.extract 5 13) W h8)
  rw [hqe] at HN
  clear hqe
  unfold instOf at he
  rw [he] at HA
  clear he
  clear h1 hz
  have hgd : decide ((m : Int) > 10000) = false := by simp; omega
  have h13d : decide ((s.size : Int) < 13) = false := by simp; omega
  have hnq := (nonempty_of (s := s.extract 13 s.size) (by omega)).2.1
  go_enter Try.func30, Try.ntmps30
  go_wp2_with (first
    | (go_at_call 35; (with_reducible refine (HA.out _).mono ?_); rintro e w1 ⟨rfl, hb⟩; obtain ⟨a0, a1, a2, a3, f0, f1, f2, f3, z0⟩ := cells4f (boxes1 hb); have HX := Lib.hid (boxes1 hb); have HB := Lib.hid (below1 hb); clear hb)
    | (go_at_call 28; (with_reducible refine (HI.out _).mono ?_); rintro e w2 ⟨rfl, rfl⟩)
    | (go_at_call 36; (with_reducible refine (HN.out _).mono ?_); rintro e w3 ⟨rfl, hb⟩; have HY := Lib.hid (boxes1 hb); have HZ := Lib.hid (obj_below (obj_alloc HX.out _) hb (by simp; omega)); obtain ⟨c0, c1, c2, c3, g0, g1, g2, g3, z1⟩ := cells4f HY.out; obtain ⟨d0, d1, d2, d3, i0, i1, i2, i3, z2⟩ := cells4f HZ.out; have HB2 := Lib.hid (bt HB.out (below1 hb)); clear hb a0 a1 a2 a3 f0 f1 f2 f3))
  refine bodyPost_ret (v := .tuple #[tv0, .bool false]) ?_ rfl ⟨rfl, ?_⟩
  · rw [results_cell_tmp rfl]
    go_simp
    rfl
  · repeat first | with_reducible exact HB2.out | (with_reducible refine Below.alloc ?_ (by first | omega | (simp; omega)) _) | (with_reducible refine Below.setCell ?_ (by first | omega | (simp; omega) | simp) _) | refine Below.drew ?_
set_option maxHeartbeats 1000000 in
theorem readN_p_no (s : ByteArray) (w : World) (h5 : 5 ≤ s.size) (h13 : s.size = 13) (m : Nat) (he : instOf s = m) (hi : 1 ≤ m ∧ m ≤ 10000) (h0 : 0 < s.size) (q : Nat) (hqe : numB (s.extract 5 13) = q) (hq : ¬ 1 ≤ q) (hk : s[0].toNat = 112) :
    Calls Try.prog 30 #[.string s] w fun e w' => e = .returned (.tuple #[encTold ⟨112, m, q, ⟨#[]⟩⟩, .bool false]) ∧ Below w.heap.size w w' := by
  have hd : decide ((s.size : Int) < 5) = false := by simp; omega
  have h1 : (s.extract 1 5).size = 4 := by rw [ByteArray.size_extract]; omega
  have hsl := sl_ab (P := Try.prog) Try.underlying9 s 1 5 (by omega) (by omega) 1 5 rfl rfl
  have HA := Lib.hid (fun W => get_yes (s.extract 1 5) W h1)
  have HI := Lib.hid (fun W : World => isInst_any (m : Int) W)
  have hz : isI (m : Int) = true := by rw [isI_iff]; omega
  rw [hz] at HI
  have h8 : (s.extract 5 13).size = 8 := by rw [ByteArray.size_extract]; omega
  have h6 : (s.extract 13 s.size).size = s.size - 13 := by rw [ByteArray.size_extract]; omega
  have hsl5 := sl_ab (P := Try.prog) Try.underlying9 s 5 13 (by omega) (by omega) 5 13 rfl rfl
  have hsl13 := sl_l (P := Try.prog) Try.underlying9 s 13 (by omega) 13 rfl
  have HN := Lib.hid (fun W => number_any (s.extract 5 13) W h8)
  rw [show s.extract 13 s.size = ⟨#[]⟩ from bl_inj (List.eq_nil_of_length_eq_zero (by rw [← size_bl]; omega))] at hsl13
  clear h6
  rw [hqe] at HN
  clear hqe
  unfold instOf at he
  rw [he] at HA
  clear he
  clear h1 hz
  have hgd : decide ((m : Int) > 10000) = false := by simp; omega
  have h13d : decide ((s.size : Int) < 13) = false := by simp; omega
  have hqd : decide ((q : Int) ≥ 1) = false := by simp; omega
  go_enter Try.func30, Try.ntmps30
  go_wp2_with (first
    | (go_at_call 35; (with_reducible refine (HA.out _).mono ?_); rintro e w1 ⟨rfl, hb⟩; obtain ⟨a0, a1, a2, a3, f0, f1, f2, f3, z0⟩ := cells4f (boxes1 hb); have HX := Lib.hid (boxes1 hb); have HB := Lib.hid (below1 hb); clear hb)
    | (go_at_call 28; (with_reducible refine (HI.out _).mono ?_); rintro e w2 ⟨rfl, rfl⟩)
    | (go_at_call 36; (with_reducible refine (HN.out _).mono ?_); rintro e w3 ⟨rfl, hb⟩; have HY := Lib.hid (boxes1 hb); have HZ := Lib.hid (obj_below (obj_alloc HX.out _) hb (by simp; omega)); obtain ⟨c0, c1, c2, c3, g0, g1, g2, g3, z1⟩ := cells4f HY.out; obtain ⟨d0, d1, d2, d3, i0, i1, i2, i3, z2⟩ := cells4f HZ.out; have HB2 := Lib.hid (bt HB.out (below1 hb)); clear hb a0 a1 a2 a3 f0 f1 f2 f3))
  have hne : w.heap.size ≠ w1.heap.size := by omega
  have HY2 := Lib.hid (obj_set (obj_set HY.out 2 (.int .u64 (q : Int))) 3 (.string (⟨#[]⟩)))
  have HZ2 := Lib.hid (obj_far (obj_far HZ.out (p := ⟨w1.heap.size, 2, none⟩) hne (.int .u64 (q : Int))) (p := ⟨w1.heap.size, 3, none⟩) hne (.string (⟨#[]⟩)))
  have HB3 := Lib.hid ((HB2.out.setCell (p := ⟨w1.heap.size, 2, none⟩) (by simp; omega) (.int .u64 (q : Int))).setCell (p := ⟨w1.heap.size, 3, none⟩) (by simp; omega) (.string (⟨#[]⟩)))
  generalize (w3.setCell ⟨w1.heap.size, 2, none⟩ (.int .u64 (q : Int))).setCell ⟨w1.heap.size, 3, none⟩ (.string (⟨#[]⟩)) = w4 at *
  simp only [List.setIfInBounds_toArray, List.set_cons_succ, List.set_cons_zero] at HY2
  clear c0 c1 c2 c3 g0 g1 g2 g3 z1 d0 d1 d2 d3 i0 i1 i2 i3 z2 HY HZ HB2 hne
  obtain ⟨c0, c1, c2, c3, g0, g1, g2, g3, z1⟩ := cells4f HY2.out
  obtain ⟨d0, d1, d2, d3, i0, i1, i2, i3, z2⟩ := cells4f HZ2.out
  go_region
  all_goals
    go_wp2
    refine bodyPost_ret (v := .tuple #[encTold ⟨112, m, q, ⟨#[]⟩⟩, .bool false]) ?_ rfl ⟨rfl, ?_⟩
    · rw [results_cell_tmp rfl]
      go_simp
      rfl
    · repeat first | exact HB3.out | (with_reducible refine Below.alloc ?_ (by first | omega | (simp; omega)) _) | (with_reducible refine Below.setCell ?_ (by first | omega | (simp; omega) | simp) _) | refine Below.drew ?_
set_option maxHeartbeats 1000000 in
theorem readN_p_yes (s : ByteArray) (w : World) (h5 : 5 ≤ s.size) (h13 : s.size = 13) (m : Nat) (he : instOf s = m) (hi : 1 ≤ m ∧ m ≤ 10000) (h0 : 0 < s.size) (q : Nat) (hqe : numB (s.extract 5 13) = q) (hq : 1 ≤ q) (hk : s[0].toNat = 112) :
    Calls Try.prog 30 #[.string s] w fun e w' => e = .returned (.tuple #[encTold ⟨112, m, q, ⟨#[]⟩⟩, .bool true]) ∧ Below w.heap.size w w' := by
  have hd : decide ((s.size : Int) < 5) = false := by simp; omega
  have h1 : (s.extract 1 5).size = 4 := by rw [ByteArray.size_extract]; omega
  have hsl := sl_ab (P := Try.prog) Try.underlying9 s 1 5 (by omega) (by omega) 1 5 rfl rfl
  have HA := Lib.hid (fun W => get_yes (s.extract 1 5) W h1)
  have HI := Lib.hid (fun W : World => isInst_any (m : Int) W)
  have hz : isI (m : Int) = true := by rw [isI_iff]; omega
  rw [hz] at HI
  have h8 : (s.extract 5 13).size = 8 := by rw [ByteArray.size_extract]; omega
  have h6 : (s.extract 13 s.size).size = s.size - 13 := by rw [ByteArray.size_extract]; omega
  have hsl5 := sl_ab (P := Try.prog) Try.underlying9 s 5 13 (by omega) (by omega) 5 13 rfl rfl
  have hsl13 := sl_l (P := Try.prog) Try.underlying9 s 13 (by omega) 13 rfl
  have HN := Lib.hid (fun W => number_any (s.extract 5 13) W h8)
  rw [show s.extract 13 s.size = ⟨#[]⟩ from bl_inj (List.eq_nil_of_length_eq_zero (by rw [← size_bl]; omega))] at hsl13
  clear h6
  rw [hqe] at HN
  clear hqe
  unfold instOf at he
  rw [he] at HA
  clear he
  clear h1 hz
  have hgd : decide ((m : Int) > 10000) = false := by simp; omega
  have h13d : decide ((s.size : Int) < 13) = false := by simp; omega
  have hqd : decide ((q : Int) ≥ 1) = true := by simp; omega
  go_enter Try.func30, Try.ntmps30
  go_wp2_with (first
    | (go_at_call 35; (with_reducible refine (HA.out _).mono ?_); rintro e w1 ⟨rfl, hb⟩; obtain ⟨a0, a1, a2, a3, f0, f1, f2, f3, z0⟩ := cells4f (boxes1 hb); have HX := Lib.hid (boxes1 hb); have HB := Lib.hid (below1 hb); clear hb)
    | (go_at_call 28; (with_reducible refine (HI.out _).mono ?_); rintro e w2 ⟨rfl, rfl⟩)
    | (go_at_call 36; (with_reducible refine (HN.out _).mono ?_); rintro e w3 ⟨rfl, hb⟩; have HY := Lib.hid (boxes1 hb); have HZ := Lib.hid (obj_below (obj_alloc HX.out _) hb (by simp; omega)); obtain ⟨c0, c1, c2, c3, g0, g1, g2, g3, z1⟩ := cells4f HY.out; obtain ⟨d0, d1, d2, d3, i0, i1, i2, i3, z2⟩ := cells4f HZ.out; have HB2 := Lib.hid (bt HB.out (below1 hb)); clear hb a0 a1 a2 a3 f0 f1 f2 f3))
  have hne : w.heap.size ≠ w1.heap.size := by omega
  have HY2 := Lib.hid (obj_set (obj_set HY.out 2 (.int .u64 (q : Int))) 3 (.string (⟨#[]⟩)))
  have HZ2 := Lib.hid (obj_far (obj_far HZ.out (p := ⟨w1.heap.size, 2, none⟩) hne (.int .u64 (q : Int))) (p := ⟨w1.heap.size, 3, none⟩) hne (.string (⟨#[]⟩)))
  have HB3 := Lib.hid ((HB2.out.setCell (p := ⟨w1.heap.size, 2, none⟩) (by simp; omega) (.int .u64 (q : Int))).setCell (p := ⟨w1.heap.size, 3, none⟩) (by simp; omega) (.string (⟨#[]⟩)))
  generalize (w3.setCell ⟨w1.heap.size, 2, none⟩ (.int .u64 (q : Int))).setCell ⟨w1.heap.size, 3, none⟩ (.string (⟨#[]⟩)) = w4 at *
  simp only [List.setIfInBounds_toArray, List.set_cons_succ, List.set_cons_zero] at HY2
  clear c0 c1 c2 c3 g0 g1 g2 g3 z1 d0 d1 d2 d3 i0 i1 i2 i3 z2 HY HZ HB2 hne
  obtain ⟨c0, c1, c2, c3, g0, g1, g2, g3, z1⟩ := cells4f HY2.out
  obtain ⟨d0, d1, d2, d3, i0, i1, i2, i3, z2⟩ := cells4f HZ2.out
  go_region
  all_goals
    go_wp2
    refine bodyPost_ret (v := .tuple #[encTold ⟨112, m, q, ⟨#[]⟩⟩, .bool true]) ?_ rfl ⟨rfl, ?_⟩
    · rw [results_cell_tmp rfl]
      go_simp
      rfl
    · repeat first | exact HB3.out | (with_reducible refine Below.alloc ?_ (by first | omega | (simp; omega)) _) | (with_reducible refine Below.setCell ?_ (by first | omega | (simp; omega) | simp) _) | refine Below.drew ?_
end Go.Proofs.Ytlboeaapmfpipaa
namespace Ros
open Go Go.RowKit
theorem nread_short {s : ByteArray} (h : ¬ 5 ≤ s.size) : nread s = none := dif_neg h
theorem nread_inst {s : ByteArray} (h : 5 ≤ s.size) (hi : ¬ (1 ≤ instOf s ∧ instOf s ≤ 10000)) : nread s = none := by
  unfold nread; rw [dif_pos h, if_neg hi]
theorem nread_dec {s : ByteArray} (h : 5 ≤ s.size) (hi : 1 ≤ instOf s ∧ instOf s ≤ 10000) (h0 : 0 < s.size) (hk : s[0] = 100) : nread s = if s.size - 5 ≤ 4000 then some ⟨100, instOf s, 0, s.extract 5 s.size⟩ else none := by
  unfold nread; rw [dif_pos h, if_pos hi, if_pos hk]
theorem nread_num {s : ByteArray} (h : 5 ≤ s.size) (hi : 1 ≤ instOf s ∧ instOf s ≤ 10000) (h0 : 0 < s.size) (hk1 : ¬ s[0] = 100) (hk : s[0] = 112 ∨ s[0] = 118) (h13 : 13 ≤ s.size) :
    nread s = if (s[0] = 112 ∧ s.size ≠ 13) ∨ ¬ (1 ≤ numB (s.extract 5 13) ∧ s.size - 13 ≤ 4000) then none else some ⟨s[0], instOf s, numB (s.extract 5 13), s.extract 13 s.size⟩ := by
  unfold nread; rw [dif_pos h, if_pos hi, if_neg hk1, if_pos ⟨hk, h13⟩]
theorem nread_other {s : ByteArray} (h : 5 ≤ s.size) (hi : 1 ≤ instOf s ∧ instOf s ≤ 10000) (h0 : 0 < s.size) (hk1 : ¬ s[0] = 100) (hk : ¬ ((s[0] = 112 ∨ s[0] = 118) ∧ 13 ≤ s.size)) : nread s = none := by
  unfold nread; rw [dif_pos h, if_pos hi, if_neg hk1, if_neg hk]
theorem told_none {v : Told} : ∀ t, (none : Option Told) = some t → v = t := fun _ h => by cases h
theorem tv0_eq : (.agg #[.int .u8 0, .int .i64 0, .int .u64 0, .string ⟨#[]⟩] : Value) = encTold ⟨0, 0, 0, ⟨#[]⟩⟩ := rfl
theorem kind_nat {b : UInt8} {n : Nat} (hn : n < 256) : b = UInt8.ofNat n ↔ b.toNat = n := by
  constructor
  · rintro rfl; simp; omega
  · intro h; apply UInt8.toNat_inj.1; rw [h]; simp; omega
end Ros
namespace Go.Proofs.Ytlboeaapmfpipaa
open Go.RowKit Go.Shelf Ros
theorem readN_told (s : ByteArray) (w : World) (hm : s.size ≤ 140737488355328) :
    Calls Try.prog 30 #[.string s] w fun e w' => ∃ t, (e = .returned (.tuple #[encTold t, .bool (nread s).isSome]) ∧ ∀ t', nread s = some t' → t = t') ∧ Below w.heap.size w w' := by
  by_cases h5 : 5 ≤ s.size
  · by_cases hi : 1 ≤ instOf s ∧ instOf s ≤ 10000
    · have h0 : 0 < s.size := by omega
      by_cases hk1 : s[0] = 100
      · rw [nread_dec h5 hi h0 hk1]
        refine (readN_dec s w h5 hm hi h0 (by rw [hk1]; rfl)).mono ?_
        rintro e w' ⟨rfl, b⟩
        refine ⟨⟨100, instOf s, 0, s.extract 5 s.size⟩, ⟨?_, ?_⟩, b⟩
        · split <;> rename_i hh <;> simp [hh]
        · split
          · rintro t ht; cases ht; rfl
          · exact told_none
      · have k1 : ¬ s[0].toNat = 100 := fun e => hk1 ((kind_nat (n := 100) (by decide)).2 e)
        by_cases hk2 : s[0] = 112
        · have k2 : s[0].toNat = 112 := by rw [hk2]; rfl
          by_cases h13 : 13 ≤ s.size
          · rw [nread_num h5 hi h0 hk1 (.inl hk2) h13]
            by_cases hl : s.size = 13
            · have he : s.extract 13 s.size = ⟨#[]⟩ := bl_inj (List.eq_nil_of_length_eq_zero (by rw [← size_bl, ByteArray.size_extract]; omega))
              by_cases hq : 1 ≤ numB (s.extract 5 13)
              · rw [if_neg (by rintro (⟨_, h⟩ | h); exact h hl; exact h ⟨hq, by omega⟩)]
                refine (readN_p_yes s w h5 hl _ rfl hi h0 _ rfl hq k2).mono ?_
                rintro e w' ⟨rfl, b⟩
                exact ⟨⟨112, instOf s, numB (s.extract 5 13), ⟨#[]⟩⟩, ⟨rfl, by rintro t ht; cases ht; rw [he, hk2]⟩, b⟩
              · rw [if_pos (.inr fun h => hq h.1)]
                refine (readN_p_no s w h5 hl _ rfl hi h0 _ rfl hq k2).mono ?_
                rintro e w' ⟨rfl, b⟩
                exact ⟨⟨112, instOf s, numB (s.extract 5 13), ⟨#[]⟩⟩, ⟨rfl, told_none⟩, b⟩
            · rw [if_pos (.inl ⟨hk2, hl⟩)]
              refine (readN_p_long s w h5 (by omega) hm _ rfl hi h0 _ rfl k2).mono ?_
              rintro e w' ⟨rfl, b⟩
              exact ⟨⟨0, 0, 0, ⟨#[]⟩⟩, ⟨rfl, told_none⟩, b⟩
          · rw [nread_other h5 hi h0 hk1 (fun h => h13 h.2)]
            refine (readN_small_p s w h5 (by omega) hi h0 k2).mono ?_
            rintro e w' ⟨rfl, b⟩
            exact ⟨⟨0, 0, 0, ⟨#[]⟩⟩, ⟨rfl, told_none⟩, b⟩
        · have k2 : ¬ s[0].toNat = 112 := fun e => hk2 ((kind_nat (n := 112) (by decide)).2 e)
          by_cases hk3 : s[0] = 118
          · have k3 : s[0].toNat = 118 := by rw [hk3]; rfl
            by_cases h13 : 13 ≤ s.size
            · rw [nread_num h5 hi h0 hk1 (.inr hk3) h13]
              by_cases hq : 1 ≤ numB (s.extract 5 13)
              · refine (readN_v_yes s w h5 h13 hm _ rfl hi h0 _ rfl hq k3).mono ?_
                rintro e w' ⟨rfl, b⟩
                refine ⟨⟨118, instOf s, numB (s.extract 5 13), s.extract 13 s.size⟩, ⟨?_, ?_⟩, b⟩
                · by_cases hh : s.size - 13 ≤ 4000
                  · rw [if_neg (by rintro (⟨h, _⟩ | h); exact hk2 h; exact h ⟨hq, hh⟩)]; simp; omega
                  · rw [if_pos (.inr fun h => hh h.2)]; simp; omega
                · split
                  · exact told_none
                  · rintro t ht; cases ht; rw [hk3]
              · rw [if_pos (.inr fun h => hq h.1)]
                refine (readN_v_no s w h5 h13 hm _ rfl hi h0 _ rfl hq k3).mono ?_
                rintro e w' ⟨rfl, b⟩
                exact ⟨⟨118, instOf s, numB (s.extract 5 13), s.extract 13 s.size⟩, ⟨rfl, told_none⟩, b⟩
            · rw [nread_other h5 hi h0 hk1 (fun h => h13 h.2)]
              refine (readN_small_v s w h5 (by omega) hi h0 k3).mono ?_
              rintro e w' ⟨rfl, b⟩
              exact ⟨⟨0, 0, 0, ⟨#[]⟩⟩, ⟨rfl, told_none⟩, b⟩
          · have k3 : ¬ s[0].toNat = 118 := fun e => hk3 ((kind_nat (n := 118) (by decide)).2 e)
            rw [nread_other h5 hi h0 hk1 (fun h => h.1.elim hk2 hk3)]
            refine (readN_kind s w h5 hm hi h0 k1 k2 k3).mono ?_
            rintro e w' ⟨rfl, b⟩
            exact ⟨⟨0, 0, 0, ⟨#[]⟩⟩, ⟨rfl, told_none⟩, b⟩
    · rw [nread_inst h5 hi]
      refine (readN_inst s w h5 hm hi).mono ?_
      rintro e w' ⟨rfl, b⟩
      exact ⟨⟨0, 0, 0, ⟨#[]⟩⟩, ⟨rfl, told_none⟩, b⟩
  · rw [nread_short h5]
    refine (readN_short s w (by omega)).mono ?_
    rintro e w' ⟨rfl, b⟩
    exact ⟨⟨0, 0, 0, ⟨#[]⟩⟩, ⟨rfl, told_none⟩, b⟩
/-- As a told, whatever it is. -/
theorem readN_shape (s : ByteArray) (w : World) (hm : s.size ≤ 140737488355328) :
    Calls Try.prog 30 #[.string s] w fun e w' => ∃ t, (e = .returned (.tuple #[encTold t, .bool (nread s).isSome]) ∧ ∀ t', nread s = some t' → t = t') ∧ Below w.heap.size w w' := by
  refine (readN_told s w hm).mono ?_
  rintro e w' ⟨t, h⟩
  exact ⟨t, h⟩
end Go.Proofs.Ytlboeaapmfpipaa
