/-
  The laws on journals, walked: the bytes of records; JournalJoins. Conditions: arguments are as the row reads them.
-/
import Derived.Test.YtnbdiifpldgkhaaJouN
namespace Ros
open Go Go.RowKit
theorem recS_txt (x : ByteArray) : recS (bl (cutB 100 x)) = recL (txt x) ∧ recE (bl (cutB 100 x)) = 0 := by
  have h := txt_len x
  unfold recS recE
  rw [txt_cut, if_pos (by omega), if_pos (by omega)]
  exact ⟨rfl, rfl⟩
theorem str_snoc (a b : List UInt8) : str a ++ str b = str (a ++ b) := str_of (by rw [bl_append, bl_str, bl_str])
theorem row_le {w : World} {e : TypeId} {size n c : Nat} {A : Option Addr} {xs : List Value} (h : Row w e size (.slice A n c) n xs) : n ≤ c := by
  obtain ⟨_, _, hv, hle, _⟩ := h.form
  cases hv; exact hle
/-- A list's cells in two parts: the slices, as values and as arguments. -/
theorem parts_ {P : Program} {t e : TypeId} (ht : P.underlying t = some (.slice e)) {i : TypeInfo} (hi : P.info? e = some i) (hz : i.size = 1) (na nb n3 : Nat) (hn : na + nb = n3) (c1 c2 c3 : List Value) (h1 : c3.take (na * 1) = c1) (h2 : c3.drop (na * 1) = c2) (A5 : Option Addr) (c5 : Nat) (hc : n3 ≤ c5) :
    ∃ A6 : Option Addr, (∀ W : World, (Instr.slice t (.slice A5 n3 c5) none (some (.int .i64 (na : Int))) none).run P W = .ok (.slice A5 na c5) W) ∧
      (∀ W : World, (Instr.slice t (.slice A5 n3 c5) (some (.int .i64 (na : Int))) none none).run P W = .ok (.slice A6 nb (c5 - na)) W) ∧
      ∀ W : World, ArgAt W 1 A5 n3 c3 → ArgAt W 1 A5 na c1 ∧ ArgAt W 1 A6 nb c2 := by
  refine ⟨if c5 = na then A5 else A5.map (·.add (na * 1)), fun W => slice_h ht hi A5 n3 c5 na (by omega) W, fun W => ?_, fun W ha => ⟨h1 ▸ ha.take_ (by omega), ?_⟩⟩
  · have h := slice_l ht hi A5 n3 c5 na (by omega) (na : Int) rfl W
    rw [hz, show n3 - na = nb by omega] at h
    exact h
  · have h := ha.drop_ (k := na) (c := c5) (by omega) hc
    rw [h2, show n3 - na = nb by omega] at h
    exact h
end Ros
namespace Go.Proofs.Ytnbdiifpldgkhaa
open Go.RowKit Go.Shelf Ros
attribute [local go_sem] Oper.semAt_some
attribute [local go_sem ↓] Go.wp_at_zero Go.wp_at_succ

set_option maxRecDepth 100000 in
set_option maxHeartbeats 1000000 in
theorem bytes_any (A : Option Addr) (c : Nat) (xs : List ByteArray) (w : World) (ha : ArgAt w 1 A xs.length (xs.map Value.string)) (hx : ∀ x ∈ xs, x.size ≤ maxLen) :
    Calls Try.prog 11 #[.slice A xs.length c] w fun e w' => e = .returned (.string (str (recs (txts xs)))) ∧ Below w.heap.size w w' := by
  have HA := Lib.hid ha
  clear ha
  go_enter Try.func11, Try.ntmps11
  go_wp2
  go_loopw [3, 4] (fun s i wr => ∃ k : Nat, k ≤ 40 ∧ k ≤ xs.length ∧ i = .int .i64 k ∧ s = .string (str (recs (txtsK xs k))) ∧ Below w.heap.size w wr) (fun _ i _ => 40 - (intOf i).toNat)
  case atStart => exact ⟨0, by omega, by omega, rfl, rfl, Below.refl _ _⟩
  case round =>
    obtain ⟨k, hk, hkn, rfl, rfl, hB⟩ := hrel
    by_cases hlt : k < xs.length ∧ k < 40
    · obtain ⟨hl1, hl2⟩ := hlt
      obtain ⟨a, hlx, rfl, _, c0⟩ := (HA.out.below hB).one k hl1
      have hsz := hx xs[k] (List.getElem_mem hl1)
      have HP := Lib.hid (fun W : World => refrecord_all (cutB 100 xs[k]) W (Nat.le_trans (cutB_size _ _) (by unfold maxLen; omega)))
      rw [(recS_txt xs[k]).1, (recS_txt xs[k]).2] at HP
      have HS := Lib.hid (show str (recs (txtsK xs k)) ++ str (recL (txt xs[k])) = str (recs (txtsK xs (k + 1))) by rw [str_snoc, ← recs_snoc, ← txtsK_succ])
      have hb1 : (str (recs (txtsK xs k))).size ≤ 4360 := by rw [size_str]; exact recsK_len xs k hk
      have hb2 : (str (recL (txt xs[k]))).size ≤ 109 := by rw [size_str, recL_length]; have := txt_len xs[k]; omega
      have hle : ∀ x : ByteArray, (x.size : Int) ≤ 100 → cutB 100 x = x := fun x h => cutB_short 100 x (by omega)
      have hgt : ∀ x : ByteArray, ¬ (x.size : Int) ≤ 100 → cutB 100 x = x.extract 0 100 := fun x h => cutB_long 100 x (by omega)
      have HB := Lib.hid hB
      clear hB
      generalize hT : str (recL (txt xs[k])) = r at *
      clear hT
      generalize xs[k] = x at *
      unfold maxLen at hsz
      generalize str (recs (txtsK xs k)) = s1 at *
      go_upto_region 5 with fail
      go_cut [5, 6] (fun v e wx => v = .string r ∧ e = .int .i64 0 ∧ Below w.heap.size w wx)
      case first =>
        by_cases h100 : (x.size : Int) ≤ 100
        · rw [hle x h100] at HP
          have hno : ((100 : Int) < (x.size : Int)) = False := eq_false (by omega)
          have hsl := sl_h (P := Try.prog) Try.underlying9 x x.size (Nat.le_refl _) (x.size : Int) rfl
          have hxx : x.extract 0 x.size = x := by apply bl_inj; rw [bl_extract0, size_bl, List.take_length]
          rw [hxx] at hsl
          clear hxx
          clear hle hgt
          go_region_law ((go_simp; go_at_call 17; refine (HP.out _).mono ?_; rintro e w1 ⟨rfl, b1⟩))
          all_goals
            go_wp2_with fail
            go_meet
            exact ⟨rfl, rfl, bt HB.out.drew b1⟩
        · rw [hgt x h100] at HP
          have hno : ((100 : Int) < (x.size : Int)) = True := eq_true (by omega)
          have hsl := sl_h (P := Try.prog) Try.underlying9 x 100 (by omega) 100 rfl
          clear hle hgt
          go_region_law ((go_simp; go_at_call 17; refine (HP.out _).mono ?_; rintro e w1 ⟨rfl, b1⟩))
          all_goals
            go_wp2_with fail
            go_meet
            exact ⟨rfl, rfl, bt HB.out.drew b1⟩
      case rest =>
        obtain ⟨rfl, rfl, hb⟩ := hcut
        have HB1 := Lib.hid hb
        clear hb hle hgt HB
        go_wp2
        go_roundw
        case rel => exact ⟨k + 1, by omega, by omega, by go_num, by rw [HS.out], HB1.out⟩
        case measure => simp [intOf]; omega
    · have HT := Lib.hid (txts_of xs k hkn hk hlt)
      rw [HT.out]
      have HB := Lib.hid hB
      clear hB
      go_wp2
      all_goals
        go_ret
        exact ⟨rfl, HB.out⟩
set_option maxRecDepth 100000 in
set_option maxHeartbeats 1000000 in
theorem journalJoins_walk (A : Option Addr) (n c : Nat) (xs : List ByteArray) (t : ByteArray) (w : World) (ha : ArgAt w 1 A n (xs.map Value.string)) (hx : ∀ x ∈ xs, x.size ≤ maxLen) (hn : xs.length = n) (ht : t.size ≤ maxLen) :
    Calls Try.prog 3 #[.slice A n c, .string t] w fun e w' => e = .returned (.bool true) ∧ Below w.heap.size w w' := by
  obtain ⟨i0, hi0, hz0, hz1, hz2⟩ := info_parts str_info
  subst hn
  have HY := Lib.hid (fun (W : World) (hb : Below w.heap.size w W) => bytes_any A c xs W (ha.below hb) hx)
  have h4 : ∀ d ∈ txts xs, d.length ≤ 4096 := fun d hd => Nat.le_trans (txts_le xs d hd) (by omega)
  have hz := cutB_size 3000 t
  have hrl := recs_len xs
  have hdl := txts_len xs
  have hll := (read_len (bl (cutB 3000 t))).2
  have hgl := (read_len (bl (cutB 3000 t))).1
  rw [← size_bl] at hll hgl
  have hS : bl (str (recs (txts xs)) ++ cutB 3000 t) = recs (txts xs) ++ bl (cutB 3000 t) := by rw [bl_append, bl_str]
  have hsz1 : (str (recs (txts xs))).size = (recs (txts xs)).length := size_str _
  have HD1 := Lib.hid (fun W : World => read_any (str (recs (txts xs))) W (by rw [hsz1]; omega))
  have HD2 := Lib.hid (fun W : World => read_any (cutB 3000 t) W (by omega))
  have HD3 := Lib.hid (fun W : World => read_any (str (recs (txts xs)) ++ cutB 3000 t) W (by rw [ByteArray.size_append', hsz1]; omega))
  rw [bl_str, read_recs' _ h4] at HD1
  rw [hS, read_recs _ _ h4] at HD3
  dsimp only at HD1 HD3
  rw [List.length_append] at HD3
  have HS1 := Lib.hid (fun (A B : Option Addr) (ca cb : Nat) (W : World) ha hb => same_any A B ca cb (txts xs) (txts xs) W ha hb (by unfold maxLen; omega) (by unfold maxLen; omega))
  have HS2 := Lib.hid (fun (A B : Option Addr) (ca cb : Nat) (W : World) ha hb => same_any A B ca cb (readL (bl (cutB 3000 t))).1 (readL (bl (cutB 3000 t))).1 W ha hb (by unfold maxLen; omega) (by unfold maxLen; omega))
  simp only [decide_true] at HS1 HS2
  have HT1 := Lib.hid (show (cellsS (txts xs ++ (readL (bl (cutB 3000 t))).1)).take ((txts xs).length * 1) = cellsS (txts xs) by rw [Nat.mul_one, cellsS_take, List.take_left' rfl])
  have HT2 := Lib.hid (show (cellsS (txts xs ++ (readL (bl (cutB 3000 t))).1)).drop ((txts xs).length * 1) = cellsS (readL (bl (cutB 3000 t))).1 by rw [Nat.mul_one, cellsS_drop, List.drop_left' rfl])
  have HCL := Lib.hid (fun h : (t.size : Int) ≤ 3000 => cutB_short 3000 t (by omega))
  have HCG := Lib.hid (fun h : ¬ (t.size : Int) ≤ 3000 => cutB_long 3000 t (by omega))
  clear ha hx h4 hS
  generalize readL (bl (cutB 3000 t)) = r2 at *
  generalize cellsS (txts xs ++ r2.1) = c3 at *
  generalize cellsS (txts xs) = c1 at *
  generalize (recs (txts xs)).length = rl at *
  generalize str (recs (txts xs)) = s at *
  generalize (txts xs).length = na at *
  generalize cellsS r2.1 = c2 at *
  generalize r2.1.length = nb at *
  generalize r2.2 = g2 at *
  have hq1 : ((rl : Int) == (s.size : Int)) = true := by rw [hsz1]; simp
  have hq2 : (((rl + g2 : Nat) : Int) == (rl : Int) + (g2 : Int)) = true := by simp
  have hq3 : (((na + nb : Nat) : Int) == (na : Int) + (nb : Int)) = true := by simp
  have hsb : s.size ≤ 4360 := by omega
  clear hsz1
  generalize hk3 : rl + g2 = g3 at *
  generalize hn3 : na + nb = n3 at *
  have HN3 := Lib.hid hn3
  have hg3 : g3 ≤ 8000 := by omega
  have hn3' : n3 ≤ 8000 := by omega
  have HSL := Lib.hid (parts_ (P := Try.prog) Try.underlying22 hi0 hz1 na nb n3 hn3 c1 c2 c3 HT1.out HT2.out)
  clear hk3 hn3
  by_cases h3 : (t.size : Int) ≤ 3000
  · have hcut := HCL.out h3
    rw [hcut] at hz HD2 HD3 hgl hll
    clear hcut HCL HCG
    go_enter Try.func3, Try.ntmps3
    go_wp2_with (first
      | (go_at_call 10; refine (shown_any _).mono ?_; rintro e w1 ⟨rfl, b1⟩)
      | (go_at_call 11; refine (HY.out _ b1).mono ?_; rintro e w2 ⟨rfl, b2⟩)
      | (go_at_call 12; (with_reducible refine (HD1.out _).mono ?_); rintro e w3 ⟨A3, c3', rfl, r3, b3⟩)
      | (go_at_call 12; (with_reducible refine (HD2.out _).mono ?_); rintro e w4 ⟨A4, c4', rfl, r4, b4⟩)
      | (go_at_call 12; (with_reducible refine (HD3.out _).mono ?_); rintro e w5 ⟨A5, c5', rfl, r5, b5⟩; obtain ⟨A6, hs1, hs2, ha6⟩ := HSL.out A5 c5' (row_le r5); have a5 := ha6 _ (ArgAt.of_row r5); clear ha6)
      | (go_at_call 13; (with_reducible refine (HS1.out _ _ _ _ _ a5.1 ((ArgAt.of_row r3).below (bt b4 b5))).mono ?_); rintro e w6 ⟨rfl, b6⟩)
      | (go_at_call 13; (with_reducible refine (HS2.out _ _ _ _ _ (a5.2.below b6) ((ArgAt.of_row r4).below (bt b5 b6))).mono ?_); rintro e w7 ⟨rfl, b7⟩))
    go_ret
    refine ⟨rfl, ?_⟩
    repeat (first | assumption | exact Below.refl _ _ | (apply bt; rotate_left; assumption))
  · have hcut := HCG.out h3
    rw [hcut] at hz HD2 HD3 hgl hll
    clear hcut HCL HCG
    unfold maxLen at ht
    go_enter Try.func3, Try.ntmps3
    go_wp2_with (first
      | (go_at_call 10; refine (shown_any _).mono ?_; rintro e w1 ⟨rfl, b1⟩)
      | (go_at_call 11; refine (HY.out _ b1).mono ?_; rintro e w2 ⟨rfl, b2⟩)
      | (go_at_call 12; (with_reducible refine (HD1.out _).mono ?_); rintro e w3 ⟨A3, c3', rfl, r3, b3⟩)
      | (go_at_call 12; (with_reducible refine (HD2.out _).mono ?_); rintro e w4 ⟨A4, c4', rfl, r4, b4⟩)
      | (go_at_call 12; (with_reducible refine (HD3.out _).mono ?_); rintro e w5 ⟨A5, c5', rfl, r5, b5⟩; obtain ⟨A6, hs1, hs2, ha6⟩ := HSL.out A5 c5' (row_le r5); have a5 := ha6 _ (ArgAt.of_row r5); clear ha6)
      | (go_at_call 13; (with_reducible refine (HS1.out _ _ _ _ _ a5.1 ((ArgAt.of_row r3).below (bt b4 b5))).mono ?_); rintro e w6 ⟨rfl, b6⟩)
      | (go_at_call 13; (with_reducible refine (HS2.out _ _ _ _ _ (a5.2.below b6) ((ArgAt.of_row r4).below (bt b5 b6))).mono ?_); rintro e w7 ⟨rfl, b7⟩))
    go_ret
    refine ⟨rfl, ?_⟩
    repeat (first | assumption | exact Below.refl _ _ | (apply bt; rotate_left; assumption))
end Go.Proofs.Ytnbdiifpldgkhaa
