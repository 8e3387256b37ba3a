/-
  The laws on journals, walked: JournalKeeps. Conditions: arguments are as the row reads them.
-/
import Derived.Test.YtnbdiifpldgkhaaJouO
namespace Ros
open Go Go.RowKit
/-- What is read behind an append of which not all was kept; of which all was. -/
theorem keeps_some (ds : List (List UInt8)) (d : ByteArray) (keep : Int) (h : ∀ x ∈ ds, x.length ≤ 4096) (hd : d.size ≤ 100) (hl : (recs ds).length ≤ 4360) (hk : keep < (d.size : Int) + 9) :
    readL (bl (appS (str (recs ds)) d keep)) = (ds, (recs ds).length) ∧ repS (appS (str (recs ds)) d keep) = str (recs ds) ∧ (appS (str (recs ds)) d keep).size ≤ 5000 ∧ appE (str (recs ds)) d = 0 := by
  have hy := app_yes keep (whole_recs ds h) (s := str (recs ds)) (d := d) ⟨by omega, by rw [size_str]; omega⟩
  have hm : clampN keep (d.size + 9) < d.size + 9 := by unfold clampN; split <;> (try split) <;> omega
  have hb : bl (appS (str (recs ds)) d keep) = recs ds ++ (recL (bl d)).take (clampN keep (d.size + 9)) := by rw [hy.1, bl_append, bl_str, bl_extract0, bl_str]
  have hr : readL (bl (appS (str (recs ds)) d keep)) = (ds, (recs ds).length) := by
    have h0 := one_cut (bl d) [] (clampN keep (d.size + 9)) (by rw [← size_bl]; omega) (by rw [← size_bl]; exact hm)
    rw [List.append_nil] at h0
    rw [hb, read_recs ds _ h, readL_zero h0]; simp
  refine ⟨hr, ?_, ?_, hy.2⟩
  · rw [repS_def, hr]
    apply bl_inj
    rw [bl_extract0, hb, bl_str]
    exact List.take_left' rfl
  · rw [size_bl, hb, List.length_append, List.length_take, recL_length, ← size_bl]; omega
theorem keeps_all (ds : List (List UInt8)) (d : ByteArray) (keep : Int) (h : ∀ x ∈ ds, x.length ≤ 4096) (hd : d.size ≤ 100) (hl : (recs ds).length ≤ 4360) (hk : ¬ keep < (d.size : Int) + 9) :
    (readL (bl (appS (str (recs ds)) d keep))).1 = ds ++ [bl d] ∧ (appS (str (recs ds)) d keep).size ≤ 5000 ∧ appE (str (recs ds)) d = 0 := by
  have hy := app_yes keep (whole_recs ds h) (s := str (recs ds)) (d := d) ⟨by omega, by rw [size_str]; omega⟩
  have hm : clampN keep (d.size + 9) = d.size + 9 := clamp_big (by omega) (by omega)
  have hb : bl (appS (str (recs ds)) d keep) = recs (ds ++ [bl d]) := by
    rw [hy.1, bl_append, bl_str, bl_extract0, bl_str, hm, List.take_of_length_le (by rw [recL_length, ← size_bl]; exact Nat.le_refl _), recs_snoc]
  refine ⟨?_, ?_, hy.2⟩
  · rw [hb, read_recs' _ (fun x hx => ?_)]
    rcases List.mem_append.1 hx with h1 | h1
    · exact h x h1
    · rw [List.mem_singleton.1 h1, ← size_bl]; omega
  · rw [size_bl, hb, recs_snoc, List.length_append, recL_length, ← size_bl]; omega
end Ros
namespace Go.Proofs.Ytnbdiifpldgkhaa
open Go.RowKit Go.Shelf Ros
attribute [local go_sem] Oper.semAt_some

set_option maxRecDepth 100000 in
set_option maxHeartbeats 1000000 in
theorem journalKeeps_walk (A : Option Addr) (n c : Nat) (xs : List ByteArray) (t : ByteArray) (keep : Int) (w : World) (ha : ArgAt w 1 A n (xs.map Value.string)) (hx : ∀ x ∈ xs, x.size ≤ maxLen) (hn : xs.length = n) (ht : t.size ≤ maxLen) :
    Calls Try.prog 9 #[.slice A n c, .string t, .int .i64 keep] w fun e w' => e = .returned (.bool true) ∧ Below w.heap.size w w' := by
  obtain ⟨i0, hi0, hz0, hz1, hz2⟩ := info_parts str_info
  subst hn
  have HY := Lib.hid (fun (W : World) (hb : Below w.heap.size w W) => bytes_any A c xs W (ha.below hb) hx)
  have h4 : ∀ d ∈ txts xs, d.length ≤ 4096 := fun d hd => Nat.le_trans (txts_le xs d hd) (by omega)
  have hz := cutB_size 100 t
  have hrl := recs_len xs
  have hdl := txts_len xs
  have hsz1 : (str (recs (txts xs))).size = (recs (txts xs)).length := size_str _
  have HD1 := Lib.hid (fun W : World => read_any (str (recs (txts xs))) W (by rw [hsz1]; omega))
  rw [bl_str, read_recs' _ h4] at HD1
  dsimp only at HD1
  have HP := Lib.hid (fun W : World => append_any (str (recs (txts xs))) (cutB 100 t) keep W (by rw [hsz1]; omega) (by unfold maxLen; omega))
  have HS1 := Lib.hid (fun (A B : Option Addr) (ca cb : Nat) (W : World) ha hb => same_any A B ca cb (txts xs) (txts xs) W ha hb (by unfold maxLen; omega) (by unfold maxLen; omega))
  simp only [decide_true] at HS1
  have HCL := Lib.hid (fun h : (t.size : Int) ≤ 100 => cutB_short 100 t (by omega))
  have HCG := Lib.hid (fun h : ¬ (t.size : Int) ≤ 100 => cutB_long 100 t (by omega))
  clear ha hx
  unfold maxLen at ht
  by_cases hk : keep < ((cutB 100 t).size : Int) + 9
  · obtain ⟨e1, e2, e3, e4⟩ := keeps_some (txts xs) (cutB 100 t) keep h4 hz hrl hk
    have HD2 := Lib.hid (fun W : World => read_any (appS (str (recs (txts xs))) (cutB 100 t) keep) W (by omega))
    have HR := Lib.hid (fun W : World => repair_any (appS (str (recs (txts xs))) (cutB 100 t) keep) W (by omega))
    rw [e1] at HD2
    rw [e2] at HR
    rw [e4] at HP
    dsimp only at HD2
    clear e1 e2 e3 e4 h4 hsz1
    generalize appS (str (recs (txts xs))) (cutB 100 t) keep = u at *
    generalize cellsS (txts xs) = c1 at *
    generalize (recs (txts xs)).length = rl at *
    generalize str (recs (txts xs)) = s at *
    generalize (txts xs).length = na at *
    by_cases h3 : (t.size : Int) ≤ 100
    · have hcut := HCL.out h3
      rw [hcut] at hz HP hk
      clear hcut HCL HCG
      go_enter Try.func9, Try.ntmps9
      go_wp2_with (first
        | (go_at_call 10; refine (shown_any _).mono ?_; rintro e w1 ⟨rfl, b1⟩)
        | (go_at_call 11; refine (HY.out _ b1).mono ?_; rintro e w2 ⟨rfl, b2⟩)
        | (go_at_call 12; (with_reducible refine (HD1.out _).mono ?_); rintro e w3 ⟨A3, c3', rfl, r3, b3⟩)
        | (go_at_call 22; (with_reducible refine (HP.out _).mono ?_); rintro e w4 ⟨rfl, b4⟩)
        | (go_at_call 12; (with_reducible refine (HD2.out _).mono ?_); rintro e w5 ⟨A5, c5', rfl, r5, b5⟩)
        | (go_at_call 13; (with_reducible refine (HS1.out _ _ _ _ _ (ArgAt.of_row r5) ((ArgAt.of_row r3).below (bt b4 b5))).mono ?_); rintro e w6 ⟨rfl, b6⟩)
        | (go_at_call 14; refine (HR.out _).mono ?_; rintro e w7 ⟨rfl, b7⟩))
      go_ret
      refine ⟨rfl, ?_⟩
      repeat (first | assumption | exact Below.refl _ _ | (apply bt; rotate_left; assumption))
    · have hcut := HCG.out h3
      rw [hcut] at hz HP hk
      have hex : (t.extract 0 100).size = 100 := by rw [size_bl, bl_extract0, List.length_take, ← size_bl]; omega
      have hk' : keep < 109 := by rw [hex] at hk; omega
      clear hcut HCL HCG
      go_enter Try.func9, Try.ntmps9
      go_wp2_with (first
        | (go_at_call 10; refine (shown_any _).mono ?_; rintro e w1 ⟨rfl, b1⟩)
        | (go_at_call 11; refine (HY.out _ b1).mono ?_; rintro e w2 ⟨rfl, b2⟩)
        | (go_at_call 12; (with_reducible refine (HD1.out _).mono ?_); rintro e w3 ⟨A3, c3', rfl, r3, b3⟩)
        | (go_at_call 22; (with_reducible refine (HP.out _).mono ?_); rintro e w4 ⟨rfl, b4⟩)
        | (go_at_call 12; (with_reducible refine (HD2.out _).mono ?_); rintro e w5 ⟨A5, c5', rfl, r5, b5⟩)
        | (go_at_call 13; (with_reducible refine (HS1.out _ _ _ _ _ (ArgAt.of_row r5) ((ArgAt.of_row r3).below (bt b4 b5))).mono ?_); rintro e w6 ⟨rfl, b6⟩)
        | (go_at_call 14; refine (HR.out _).mono ?_; rintro e w7 ⟨rfl, b7⟩))
      go_ret
      refine ⟨rfl, ?_⟩
      repeat (first | assumption | exact Below.refl _ _ | (apply bt; rotate_left; assumption))
  · obtain ⟨e1, e3, e4⟩ := keeps_all (txts xs) (cutB 100 t) keep h4 hz hrl hk
    have HD2 := Lib.hid (fun W : World => read_any (appS (str (recs (txts xs))) (cutB 100 t) keep) W (by omega))
    rw [e1] at HD2
    rw [e4] at HP
    rw [List.length_append, List.length_singleton] at HD2
    have HT1 := Lib.hid (show (cellsS (txts xs ++ [bl (cutB 100 t)])).take ((txts xs).length * 1) = cellsS (txts xs) by rw [Nat.mul_one, cellsS_take, List.take_left' rfl])
    have HT2 := Lib.hid (show (cellsS (txts xs ++ [bl (cutB 100 t)])).drop ((txts xs).length * 1) = cellsS [bl (cutB 100 t)] by rw [Nat.mul_one, cellsS_drop, List.drop_left' rfl])
    have HT3 := Lib.hid (show (cellsS (txts xs ++ [bl (cutB 100 t)]))[(txts xs).length]? = some (.string (cutB 100 t)) by rw [cellsS_snoc, str_bl, List.getElem?_append_right (by rw [cellsS_length]; exact Nat.le_refl _), cellsS_length]; simp)
    have hg := (read_len (bl (appS (str (recs (txts xs))) (cutB 100 t) keep))).1
    rw [← size_bl] at hg
    generalize (readL (bl (appS (str (recs (txts xs))) (cutB 100 t) keep))).2 = g2 at *
    clear e1 h4 e4 hsz1
    generalize appS (str (recs (txts xs))) (cutB 100 t) keep = u at *
    generalize cellsS (txts xs ++ [bl (cutB 100 t)]) = c3 at *
    generalize cellsS (txts xs) = c1 at *
    generalize (recs (txts xs)).length = rl at *
    generalize str (recs (txts xs)) = s at *
    generalize (txts xs).length = na at *
    have HSL := Lib.hid (parts_ (P := Try.prog) Try.underlying22 hi0 hz1 na 1 (na + 1) rfl c1 _ c3 HT1.out HT2.out)
    by_cases h3 : (t.size : Int) ≤ 100
    · have hcut := HCL.out h3
      rw [hcut] at hz HP hk HT3
      have hk' : ¬ keep < (t.size : Int) + 9 := hk
      clear hcut HCL HCG
      go_enter Try.func9, Try.ntmps9
      go_wp2_with (first
        | (go_at_call 10; refine (shown_any _).mono ?_; rintro e w1 ⟨rfl, b1⟩)
        | (go_at_call 11; refine (HY.out _ b1).mono ?_; rintro e w2 ⟨rfl, b2⟩)
        | (go_at_call 12; (with_reducible refine (HD1.out _).mono ?_); rintro e w3 ⟨A3, c3', rfl, r3, b3⟩)
        | (go_at_call 22; (with_reducible refine (HP.out _).mono ?_); rintro e w4 ⟨rfl, b4⟩)
        | (go_at_call 12; (with_reducible refine (HD2.out _).mono ?_); rintro e w5 ⟨A5, c5', rfl, r5, b5⟩; obtain ⟨A6, hs1, hs2, ha6⟩ := HSL.out A5 c5' (row_le r5); have a5 := ha6 _ (ArgAt.of_row r5); clear ha6 hs2; obtain ⟨gb, cb, hv, _, _, hgb, hcs, _⟩ := r5.some_ (Nat.succ_pos _); cases hv; have hcd := hcs _ _ HT3.out; clear hcs)
        | (go_at_call 13; (with_reducible refine (HS1.out _ _ _ _ _ a5.1 ((ArgAt.of_row r3).below (bt b4 b5))).mono ?_); rintro e w6 ⟨rfl, b6⟩; have hcd6 := (b6.cell (p := ⟨gb, na, none⟩) hgb).trans hcd))
      go_ret
      refine ⟨rfl, ?_⟩
      repeat (first | assumption | exact Below.refl _ _ | (apply bt; rotate_left; assumption))
    · have hcut := HCG.out h3
      rw [hcut] at hz HP hk HT3
      have hex : (t.extract 0 100).size = 100 := by rw [size_bl, bl_extract0, List.length_take, ← size_bl]; omega
      have hk' : ¬ keep < 109 := by rw [hex] at hk; omega
      clear hcut HCL HCG
      go_enter Try.func9, Try.ntmps9
      go_wp2_with (first
        | (go_at_call 10; refine (shown_any _).mono ?_; rintro e w1 ⟨rfl, b1⟩)
        | (go_at_call 11; refine (HY.out _ b1).mono ?_; rintro e w2 ⟨rfl, b2⟩)
        | (go_at_call 12; (with_reducible refine (HD1.out _).mono ?_); rintro e w3 ⟨A3, c3', rfl, r3, b3⟩)
        | (go_at_call 22; (with_reducible refine (HP.out _).mono ?_); rintro e w4 ⟨rfl, b4⟩)
        | (go_at_call 12; (with_reducible refine (HD2.out _).mono ?_); rintro e w5 ⟨A5, c5', rfl, r5, b5⟩; obtain ⟨A6, hs1, hs2, ha6⟩ := HSL.out A5 c5' (row_le r5); have a5 := ha6 _ (ArgAt.of_row r5); clear ha6 hs2; obtain ⟨gb, cb, hv, _, _, hgb, hcs, _⟩ := r5.some_ (Nat.succ_pos _); cases hv; have hcd := hcs _ _ HT3.out; clear hcs)
        | (go_at_call 13; (with_reducible refine (HS1.out _ _ _ _ _ a5.1 ((ArgAt.of_row r3).below (bt b4 b5))).mono ?_); rintro e w6 ⟨rfl, b6⟩; have hcd6 := (b6.cell (p := ⟨gb, na, none⟩) hgb).trans hcd))
      go_ret
      refine ⟨rfl, ?_⟩
      repeat (first | assumption | exact Below.refl _ _ | (apply bt; rotate_left; assumption))
end Go.Proofs.Ytnbdiifpldgkhaa
