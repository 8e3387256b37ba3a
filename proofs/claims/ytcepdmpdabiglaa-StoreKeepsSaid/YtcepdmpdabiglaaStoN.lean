/-
  The laws of store, walked: StoreAgain. Conditions: none but the arguments' own.
-/
import Derived.Test.YtcepdmpdabiglaaStoL
namespace Ros
open Go Go.RowKit
theorem of_log (ds : List (List UInt8)) (b : ByteArray) : (St.of ds b).log = recs ds := rfl
theorem srec_of (ds : List (List UInt8)) (b : ByteArray) (k : Nat) (c : Bool) (h : ∀ d ∈ ds, d.length ≤ 4096) : srec { St.of ds b with cut := c, keep := k } = St.of ds b := by
  rw [srec_recs _ ds h rfl]; rfl
theorem txts20 (l : List ByteArray) (k : Nat) (hk : k ≤ 20) : (recs (txtsK l k)).length ≤ 2180 := by
  have h := recs_length_le (txtsK l k) 100 (txtsK_le l k)
  have h2 : (txtsK l k).length ≤ 20 := by unfold txtsK; rw [List.length_map, List.length_take]; omega
  have h3 : (txtsK l k).length * (100 + 9) ≤ 20 * (100 + 9) := Nat.mul_le_mul_right _ h2
  omega
theorem swrite_txt (l : List ByteArray) (k : Nat) (hk : k < l.length) (hk2 : k < 20) : swrite (St.of (txtsK l k) ⟨#[]⟩) (cutB 100 l[k]) = (0, St.of (txtsK l (k + 1)) ⟨#[]⟩) := by
  have h := swrite_of (txtsK l k) ⟨#[]⟩ (cutB 100 l[k]) (cutB_size _ _) (by have := txts20 l k (by omega); show _ + 0 ≤ _; omega)
  rw [h, txt_cut, ← txtsK_succ]
theorem nil_le {n : Nat} : (⟨#[]⟩ : ByteArray).size ≤ n := Nat.zero_le _
theorem cap64 : (64 : Int) ≤ 1048576 := by decide
theorem cap20 : (1048576 : Int) ≤ 1048576 := by decide
end Ros
namespace Go.Proofs.Ytcepdmpdabiglaa
open Go.RowKit Go.Shelf Ros
attribute [local go_sem] Oper.semAt_some
attribute [local go_sem ↓] Go.wp_at_zero Go.wp_at_succ
set_option linter.unusedVariables false

set_option maxRecDepth 100000 in
set_option maxHeartbeats 2000000 in
theorem storeAgain_walk (A : Option Addr) (n c : Nat) (xs : List ByteArray) (keep : Int) (w : World) (ha : ArgAt w 1 A n (xs.map Value.string)) (hx : ∀ x ∈ xs, x.size ≤ maxLen) (hn : xs.length = n) :
    Calls Try.prog 3 #[.slice A n c, .int .i64 keep] w fun e w' => e = .returned (.bool true) ∧ Below w.heap.size w w' := by
  subst hn
  have HA := Lib.hid ha
  clear ha
  go_enter Try.func3, Try.ntmps3
  go_wp2_with (first
    | (go_at_call 7; refine (sshown_any _).mono ?_; rintro e W1 ⟨rfl, h1⟩)
    | (go_at_call 8; refine (ne_law h1 1048576 (by decide) (by decide)).mono ?_; rintro e W2 ⟨rfl, h2, _⟩; replace h2 : StAt w W2 (fun k => k = W1.heap.size) W1.heap.size (St.of (txtsK xs 0) ⟨#[]⟩) := h2; generalize W1.heap.size = g at h2 ⊢))
  go_loopw [8] (fun i wr => ∃ (k : Nat) (S : Nat → Prop), k ≤ 20 ∧ k ≤ xs.length ∧ i = .int .i64 k ∧ StAt w wr S g (St.of (txtsK xs k) ⟨#[]⟩)) (fun i _ => 20 - (intOf i).toNat)
  case atStart => exact ⟨0, _, by omega, by omega, rfl, h2⟩
  case round =>
    obtain ⟨k, S, hk, hkn, rfl, hL⟩ := hrel
    clear h2
    by_cases hlt : k < xs.length ∧ k < 20
    · obtain ⟨hl1, hl2⟩ := hlt
      obtain ⟨a, hlx, rfl, _, c0⟩ := (HA.out.below hL.2.1).one k hl1
      have hsz := hx xs[k] (List.getElem_mem hl1)
      have hsw := swrite_txt xs k hl1 hl2
      have HW := Lib.hid (fun (W : World) (h : StAt w W S g (St.of (txtsK xs k) ⟨#[]⟩)) => wr_law h (cutB 100 xs[k]) (Nat.le_trans (cutB_size _ _) (by unfold maxLen; omega)) (by rw [of_log]; have := txts20 xs k hk; omega) nil_le cap64 cap20)
      rw [hsw] at HW
      dsimp only at HW
      have HL := Lib.hid hL
      have hle : ∀ x : ByteArray, (x.size : Int) ≤ 100 → cutB 100 x = x := fun x h => cutB_short 100 x (by omega)
      have hgt : ∀ x : ByteArray, ¬ (x.size : Int) ≤ 100 → cutB 100 x = x.extract 0 100 := fun x h => cutB_long 100 x (by omega)
      clear hL hsw
      generalize xs[k] = x at *
      unfold maxLen at hsz
      generalize St.of (txtsK xs k) ⟨#[]⟩ = s1 at *
      generalize hs2 : St.of (txtsK xs (k + 1)) ⟨#[]⟩ = s2 at *
      have HS2 := Lib.hid hs2
      clear hs2
      by_cases h100 : (x.size : Int) ≤ 100
      · rw [hle x h100] at HW
        have hno : ((100 : Int) < (x.size : Int)) = False := eq_false (by omega)
        have hsl := sl_h (P := Try.prog) Try.underlying9 x x.size (Nat.le_refl _) (x.size : Int) rfl
        have hxx : x.extract 0 x.size = x := by apply bl_inj; rw [bl_extract0, size_bl, List.take_length]
        rw [hxx] at hsl
        clear hxx hle hgt
        go_upto_region 6 with fail
        go_region_law ((go_simp; go_at_call 9; refine (HW.out _ (HL.out.below (Below.refl _ _).drew)).mono ?_; rintro e W3 ⟨rfl, S3, h3, _⟩))
        all_goals
          go_wp2
          go_roundw
          case rel => exact ⟨k + 1, S3, by omega, by omega, by go_num, by rw [HS2.out]; exact h3⟩
          case measure => simp [intOf]; omega
      · rw [hgt x h100] at HW
        have hno : ((100 : Int) < (x.size : Int)) = True := eq_true (by omega)
        have hsl := sl_h (P := Try.prog) Try.underlying9 x 100 (by omega) 100 rfl
        clear hle hgt
        go_upto_region 6 with fail
        go_region_law ((go_simp; go_at_call 9; refine (HW.out _ (HL.out.below (Below.refl _ _).drew)).mono ?_; rintro e W3 ⟨rfl, S3, h3, _⟩))
        all_goals
          go_wp2
          go_roundw
          case rel => exact ⟨k + 1, S3, by omega, by omega, by go_num, by rw [HS2.out]; exact h3⟩
          case measure => simp [intOf]; omega
    · have hrl := txts20 xs k hk
      have h4 : ∀ d ∈ txtsK xs k, d.length ≤ 4096 := fun d hd => Nat.le_trans (txtsK_le xs k d hd) (by omega)
      have hdl : (txtsK xs k).length ≤ 20 := by rw [txtsK_len xs k hkn]; exact hk
      generalize txtsK xs k = ds at *
      have hh : (St.of ds ⟨#[]⟩).holds ≤ 3000 := by show (recs ds).length + 0 ≤ _; omega
      have HH := Lib.hid (ho_law hL (by rw [of_log]; omega) nil_le)
      -- behind the cut: two stores, each recovered to the first
      have hcut : ∃ (e : Int) (c : Bool) (q : Nat), scut (St.of ds ⟨#[]⟩) keep = (e, { St.of ds ⟨#[]⟩ with cut := c, keep := q }) := by
        by_cases hk0 : keep < 0
        · exact ⟨2, false, 0, scut_neg rfl hk0⟩
        · obtain ⟨q, rfl⟩ := Int.eq_ofNat_of_zero_le (show 0 ≤ keep by omega)
          exact ⟨0, true, q, scut_yes rfl⟩
      obtain ⟨ec, cc, qc, hcut⟩ := hcut
      have HC := Lib.hid (fun (W : World) (h : StAt w W S g (St.of ds ⟨#[]⟩)) => cu_law h keep)
      rw [hcut] at HC
      dsimp only at HC
      have HR1 := Lib.hid (fun (W : World) (h : StAt w W S g { St.of ds ⟨#[]⟩ with cut := cc, keep := qc }) => re_law h (by rw [show (({ St.of ds ⟨#[]⟩ with cut := cc, keep := qc } : St).log) = recs ds from rfl]; omega) nil_le)
      have HR2 := Lib.hid (fun (W : World) (h : StAt w W S g (St.of ds ⟨#[]⟩)) => re_law h (by rw [of_log]; omega) nil_le)
      rw [srec_of ds ⟨#[]⟩ qc cc h4] at HR1
      have hsr : srec (St.of ds ⟨#[]⟩) = St.of ds ⟨#[]⟩ := srec_of ds ⟨#[]⟩ 0 false h4
      rw [hsr, of_log, read_recs' ds h4] at HR2
      rw [show (({ St.of ds ⟨#[]⟩ with cut := cc, keep := qc } : St).log) = recs ds from rfl, read_recs' ds h4, show (({ St.of ds ⟨#[]⟩ with cut := cc, keep := qc } : St).snap) = (St.of ds ⟨#[]⟩).snap from rfl] at HR1
      dsimp only at HR1 HR2
      have HH2 := Lib.hid (fun (W : World) (h : StAt w W S g (St.of ds ⟨#[]⟩)) => ho_law h (by rw [of_log]; omega) nil_le)
      have HZ := Lib.hid (fun (W : World) (h : StAt w W S g (St.of ds ⟨#[]⟩)) => wr_law h ⟨#[122]⟩ (by decide) (by rw [of_log]; omega) nil_le cap64 cap20)
      rw [swrite_of ds ⟨#[]⟩ ⟨#[122]⟩ (by decide) (by show _ + 0 ≤ _; omega)] at HZ
      dsimp only at HZ
      have HS := Lib.hid (fun (A B : Option Addr) (ca cb : Nat) (W : World) ha hb => same_any A B ca cb ds ds W ha hb (by unfold maxLen; omega) (by unfold maxLen; omega))
      simp only [decide_true] at HS
      clear h4 hcut hsr hrl hL
      generalize ({ St.of ds ⟨#[]⟩ with cut := cc, keep := qc } : St) = s2 at *
      generalize snapD (St.of ds ⟨#[]⟩).snap = sd at *
      generalize (St.of ds ⟨#[]⟩).holds = nh at *
      generalize St.of (ds ++ [bl ⟨#[122]⟩]) ⟨#[]⟩ = s3 at *
      generalize St.of ds ⟨#[]⟩ = s1 at *
      generalize cellsS ds = cs at *
      generalize ds.length = nd at *
      go_wp2_with (first
        | (go_at_call 10; (with_reducible refine HH.out.mono ?_); rintro e W3 ⟨rfl, h3, _⟩; clear HH)
        | (go_at_call 11; refine (HC.out _ h3).mono ?_; rintro e W4 ⟨rfl, h4, _⟩; clear HC)
        | (go_at_call 12; refine (HR1.out _ h4).mono ?_; rintro e W5 ⟨A5, c5, rfl, r5, h5, _⟩; clear HR1)
        | (go_at_call 12; refine (HR2.out _ h5).mono ?_; rintro e W6 ⟨A6, c6, rfl, r6, h6, t6⟩; clear HR2)
        | (go_at_call 13; refine (HS.out _ _ _ _ _ (r5.turn t6).arg r6.arg).mono ?_; rintro e W7 ⟨rfl, b7⟩)
        | (go_at_call 10; refine (HH2.out _ (h6.below b7)).mono ?_; rintro e W8 ⟨rfl, h8, _⟩)
        | (go_at_call 9; refine (HZ.out _ h8).mono ?_; rintro e W9 ⟨rfl, S9, h9, _⟩))
      all_goals
        go_ret
        exact ⟨rfl, h9.2.1⟩
end Go.Proofs.Ytcepdmpdabiglaa
