/-
  The laws on journals, walked: JournalTears. Conditions: arguments are as the row reads them.
-/
import Derived.Test.YtnbdiifpldgkhaaJouO
import Derived.Lib.QuietBelow
namespace Ros
open Go Go.RowKit
theorem recs_drop (ds : List (List UInt8)) (k : Nat) : (recs (ds.take k)).length ≤ (recs ds).length := by
  conv => rhs; rw [← List.take_append_drop k ds, recs_append]
  simp
end Ros
namespace Go.Proofs.Ytnbdiifpldgkhaa
open Go.RowKit Go.Shelf Ros
attribute [local go_sem] Oper.semAt_some

set_option maxRecDepth 100000 in
set_option maxHeartbeats 1000000 in
theorem journalTears_walk (A : Option Addr) (n c : Nat) (xs : List ByteArray) (m : Int) (w : World) (ha : ArgAt w 1 A n (xs.map Value.string)) (hx : ∀ x ∈ xs, x.size ≤ maxLen) (hn : xs.length = n) :
    Calls Try.prog 4 #[.slice A n c, .int .i64 m] w fun e w' => e = .returned (.bool true) ∧ Below w.heap.size w w' := by
  obtain ⟨i0, hi0, hz0, hz1, hz2⟩ := info_parts str_info
  subst hn
  have HY := Lib.hid (fun (W : World) (hb : Below w.heap.size w W) => bytes_any A c xs W (ha.below hb) hx)
  have h4 : ∀ d ∈ txts xs, d.length ≤ 4096 := fun d hd => Nat.le_trans (txts_le xs d hd) (by omega)
  have hrl := recs_len xs
  have hdl := txts_len xs
  have hsz1 : (str (recs (txts xs))).size = (recs (txts xs)).length := size_str _
  clear ha hx
  by_cases hm : 0 ≤ m ∧ m ≤ ((recs (txts xs)).length : Int)
  · obtain ⟨hm1, hm2⟩ := hm
    obtain ⟨b, rfl⟩ := Int.eq_ofNat_of_zero_le hm1
    obtain ⟨k, hk1, hk2, hk3, hk4, hk5⟩ := read_cut (txts xs) h4 b (by omega)
    have hx1 : (str (recs (txts xs))).extract 0 b = str ((recs (txts xs)).take b) := by apply bl_inj; rw [bl_extract0, bl_str, bl_str]
    have hx2 : (str (recs (txts xs))).extract 0 (recs ((txts xs).take k)).length = str (recs ((txts xs).take k)) := by apply bl_inj; rw [bl_extract0, bl_str, bl_str, hk4]
    have hgl := recs_drop (txts xs) k
    have hs1 := sl_h (P := Try.prog) Try.underlying9 (str (recs (txts xs))) b (by rw [hsz1]; omega) (b : Int) rfl
    have hs2 := sl_h (P := Try.prog) Try.underlying9 (str (recs (txts xs))) (recs ((txts xs).take k)).length (by rw [hsz1]; omega) ((recs ((txts xs).take k)).length : Int) rfl
    have h4k : ∀ d ∈ (txts xs).take k, d.length ≤ 4096 := fun d hd => h4 d (List.mem_of_mem_take hd)
    rw [hx1] at hs1
    rw [hx2] at hs2
    have hl1 : ((recs (txts xs)).take b).length ≤ 67108864 := by rw [List.length_take]; omega
    have HD1 := Lib.hid (fun W : World => read_any (str (recs (txts xs))) W (by rw [hsz1]; omega))
    have HD2 := Lib.hid (fun W : World => read_any (str ((recs (txts xs)).take b)) W (by rw [size_str]; exact hl1))
    have HD3 := Lib.hid (fun W : World => read_any (str (recs ((txts xs).take k))) W (by rw [size_str]; omega))
    have HR := Lib.hid (fun W : World => repair_any (str ((recs (txts xs)).take b)) W (by rw [size_str]; exact hl1))
    have hrep : repS (str ((recs (txts xs)).take b)) = str (recs ((txts xs).take k)) := by
      rw [repS_def, bl_str, hk2]
      apply bl_inj
      rw [bl_extract0, bl_str, bl_str, List.take_take, Nat.min_eq_left hk3, hk4]
    rw [hrep] at HR
    rw [bl_str, read_recs' _ h4] at HD1
    rw [bl_str, hk2] at HD2
    rw [bl_str, read_recs' _ h4k] at HD3
    dsimp only at HD1 HD2 HD3
    have HS1 := Lib.hid (fun (A B : Option Addr) (ca cb : Nat) (W : World) ha hb => same_any A B ca cb ((txts xs).take k) ((txts xs).take k) W ha hb (by rw [List.length_take]; unfold maxLen; omega) (by rw [List.length_take]; unfold maxLen; omega))
    simp only [decide_true] at HS1
    have HLK := Lib.hid (show ((txts xs).take k).length = k by rw [List.length_take]; omega)
    rw [HLK.out] at HD2 HD3 HS1
    have HT1 := Lib.hid (show (cellsS (txts xs)).take (k * 1) = cellsS ((txts xs).take k) by rw [Nat.mul_one, cellsS_take])
    have HT3 := Lib.hid (fun h : k < (txts xs).length => show (cellsS (txts xs))[k]? = some (.string (str (txts xs)[k])) by simp [cellsS, h])
    have HT5 := Lib.hid (fun h : k < (txts xs).length => (⟨hk5 h, by rw [size_str]; exact Nat.le_trans (txts_le xs _ (List.getElem_mem h)) (by omega)⟩ : b < (recs ((txts xs).take k)).length + (txts xs)[k].length + 9 ∧ (str (txts xs)[k]).size ≤ 100))
    have HT6 := Lib.hid (fun h : k < (txts xs).length => size_str (txts xs)[k])
    have hq1 : (((recs (txts xs)).length : Int) != ((str (recs (txts xs))).size : Int)) = false := by rw [hsz1]; simp
    have hsb : (str (recs (txts xs))).size ≤ 4360 := by omega
    have hbs : (b : Int) ≤ ((str (recs (txts xs))).size : Int) := by rw [hsz1]; omega
    have HSL := Lib.hid (parts_ (P := Try.prog) Try.underlying22 hi0 hz1 k ((txts xs).length - k) (txts xs).length (by omega) (cellsS ((txts xs).take k)) _ (cellsS (txts xs)) HT1.out rfl)
    by_cases hka : k = (txts xs).length
    · have hq2 : ((k : Int) == ((txts xs).length : Int)) = true := by rw [← hka]; simp
      clear h4 h4k hx1 hx2 hsz1 hrep hk2 hk4 hk5 HT5 HT3 HT6 HLK hl1
      generalize (recs ((txts xs).take k)).length = gk at *
      generalize (recs (txts xs)).length = rl at *
      generalize cellsS ((txts xs).take k) = ck at *
      generalize cellsS (txts xs) = c1 at *
      generalize str (recs ((txts xs).take k)) = sk at *
      generalize str ((recs (txts xs)).take b) = sb at *
      generalize str (recs (txts xs)) = s at *
      generalize (txts xs).length = na at *
      have HKA := Lib.hid hka
      clear hka
      go_enter Try.func4, Try.ntmps4
      go_wp2_with (first
        | (go_at_call 10; refine (shown_any _).mono ?_; rintro e w1 ⟨rfl, b1⟩)
        | (go_at_call 11; refine (HY.out _ b1).mono ?_; rintro e w2 ⟨rfl, b2⟩)
        | (go_at_call 12; (with_reducible refine (HD2.out _).mono ?_); rintro e w3 ⟨A3, c3', rfl, r3, b3⟩)
        | (go_at_call 12; (with_reducible refine (HD1.out _).mono ?_); rintro e w4 ⟨A4, c4', rfl, r4, b4⟩; obtain ⟨A6, hs3, hs4, ha6⟩ := HSL.out A4 c4' (row_le r4); have a4 := (ha6 _ (ArgAt.of_row r4)).1; clear ha6 hs4)
        | (go_at_call 13; (with_reducible refine (HS1.out _ _ _ _ _ ((ArgAt.of_row r3).below b4) a4).mono ?_); rintro e w5 ⟨rfl, b5⟩)
        | (go_at_call 12; (with_reducible refine (HD3.out _).mono ?_); rintro e w6 ⟨A7, c7', rfl, r7, b7⟩))
      have q1 : ∀ d os, _ := fun d os => Calls.regrown_of (HS1.out A7 A3 c7' c3' (Sort.grow (redrawn w6 d) os) ((ArgAt.of_row r7).below (below_regrown w6 d os)) (((ArgAt.of_row r3).below (bt (bt b4 b5) b7)).below (below_regrown w6 d os)))
      have q2 : ∀ d os, _ := fun d os => Calls.regrown_of (HR.out (Sort.grow (redrawn w6 d) os))
      refine wp_region_quiet_below (by kernel_rfl) (by kernel_rfl) ?_
      repeat (go_big_quiet_step (first | exact q1 _ _ | exact q2 _ _))
      refine wpQuiet_nil ?_
      intro _ hw'
      obtain ⟨⟨dq, osq⟩, hw''⟩ := hw'
      subst hw''
      go_wp2
      go_ret
      refine ⟨rfl, bt ?_ (below_regrown w6 dq osq)⟩
      repeat (first | assumption | exact Below.refl _ _ | (apply bt; rotate_left; assumption))
    · have hkl : k < (txts xs).length := by omega
      have hq2 : ((k : Int) == ((txts xs).length : Int)) = false := by rw [beq_eq_false_iff_ne]; omega
      obtain ⟨h51, h52⟩ := HT5.out hkl
      have hc0 := HT3.out hkl
      rw [← HT6.out hkl] at h51
      generalize str (txts xs)[k] = dk at *
      have HC0 := Lib.hid hc0
      clear hc0
      clear h4 h4k hx1 hx2 hsz1 hrep hk2 hk4 hk5 HT5 HT3 HT6 HLK hl1
      generalize (recs ((txts xs).take k)).length = gk at *
      generalize (recs (txts xs)).length = rl at *
      generalize cellsS ((txts xs).take k) = ck at *
      generalize cellsS (txts xs) = c1 at *
      generalize str (recs ((txts xs).take k)) = sk at *
      generalize str ((recs (txts xs)).take b) = sb at *
      generalize str (recs (txts xs)) = s at *
      generalize (txts xs).length = na at *
      go_enter Try.func4, Try.ntmps4
      go_wp2_with (first
        | (go_at_call 10; refine (shown_any _).mono ?_; rintro e w1 ⟨rfl, b1⟩)
        | (go_at_call 11; refine (HY.out _ b1).mono ?_; rintro e w2 ⟨rfl, b2⟩)
        | (go_at_call 12; (with_reducible refine (HD2.out _).mono ?_); rintro e w3 ⟨A3, c3', rfl, r3, b3⟩)
        | (go_at_call 12; (with_reducible refine (HD1.out _).mono ?_); rintro e w4 ⟨A4, c4', rfl, r4, b4⟩; obtain ⟨A6, hs3, hs4, ha6⟩ := HSL.out A4 c4' (row_le r4); have a4 := (ha6 _ (ArgAt.of_row r4)).1; clear ha6 hs4; obtain ⟨gb, cb, hv, _, _, hgb, hcs, _⟩ := r4.some_ (Nat.lt_of_le_of_lt (Nat.zero_le _) hkl); cases hv; have hcd := hcs _ _ HC0.out; clear hcs)
        | (go_at_call 13; (with_reducible refine (HS1.out _ _ _ _ _ ((ArgAt.of_row r3).below b4) a4).mono ?_); rintro e w5 ⟨rfl, b5⟩)
        | (go_at_call 12; (with_reducible refine (HD3.out _).mono ?_); rintro e w6 ⟨A7, c7', rfl, r7, b7⟩))
      have hcr := fun d os => cell_regrown ((b7.cell (p := ⟨gb, k, none⟩) (Nat.lt_of_lt_of_le hgb b5.size)).trans ((b5.cell (p := ⟨gb, k, none⟩) hgb).trans hcd)) d os
      have q1 : ∀ d os, _ := fun d os => Calls.regrown_of (HS1.out A7 A3 c7' c3' (Sort.grow (redrawn w6 d) os) ((ArgAt.of_row r7).below (below_regrown w6 d os)) (((ArgAt.of_row r3).below (bt (bt b4 b5) b7)).below (below_regrown w6 d os)))
      have q2 : ∀ d os, _ := fun d os => Calls.regrown_of (HR.out (Sort.grow (redrawn w6 d) os))
      refine wp_region_quiet_below (by kernel_rfl) (by kernel_rfl) ?_
      repeat (go_big_quiet_step (first | exact q1 _ _ | exact q2 _ _))
      refine wpQuiet_nil ?_
      intro _ hw'
      obtain ⟨⟨dq, osq⟩, hw''⟩ := hw'
      subst hw''
      go_wp2
      go_ret
      refine ⟨by show Ending.returned (.bool (decide ((b : Int) < (gk : Int) + (dk.size : Int) + 9))) = _; rw [decide_eq_true (by omega)], bt ?_ (below_regrown w6 dq osq)⟩
      repeat (first | assumption | exact Below.refl _ _ | (apply bt; rotate_left; assumption))
  · have hno : m < 0 ∨ ((recs (txts xs)).length : Int) < m := by omega
    have hsb : (str (recs (txts xs))).size ≤ 4360 := by omega
    rcases hno with h | h
    · clear h4 hsz1
      generalize str (recs (txts xs)) = s at *
      go_enter Try.func4, Try.ntmps4
      go_wp2_with (first
        | (go_at_call 10; refine (shown_any _).mono ?_; rintro e w1 ⟨rfl, b1⟩)
        | (go_at_call 11; refine (HY.out _ b1).mono ?_; rintro e w2 ⟨rfl, b2⟩))
      go_ret
      exact ⟨rfl, bt b1 b2⟩
    · rw [← hsz1] at h
      have h0 : ¬ m < 0 := by omega
      clear h4 hsz1
      generalize str (recs (txts xs)) = s at *
      go_enter Try.func4, Try.ntmps4
      go_wp2_with (first
        | (go_at_call 10; refine (shown_any _).mono ?_; rintro e w1 ⟨rfl, b1⟩)
        | (go_at_call 11; refine (HY.out _ b1).mono ?_; rintro e w2 ⟨rfl, b2⟩))
      go_ret
      exact ⟨rfl, bt b1 b2⟩
end Go.Proofs.Ytnbdiifpldgkhaa
