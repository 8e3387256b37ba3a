/-
  The walk of PaxosGone. Conditions: numbers are as the program's types allow.
-/
import Derived.Test.YtlboeaapmfpipaaPaxQ
namespace Go.Proofs.Ytlboeaapmfpipaa
open Go.RowKit Go.Shelf Ros
attribute [local go_sem] Oper.semAt_some
section
variable (W : World) (S : Nat → Prop) (g : Nat)
theorem gone_c (j c : Nat) (hj : j < 20) (hc : c ≤ 1000) (h : NdA W S g (stG j) c) :
    Calls Try.prog 12 #[.pointer (some ⟨g, 0, none⟩), .int .i64 ((j + 1 : Nat) : Int), .int .u64 ((j + 1 : Nat) : Int), .string ⟨#[118]⟩] W fun e w' => (∃ R, e = .returned (.tuple #[.string R, .int .i64 0])) ∧ NdA w' S g (stGc j) (c + 1) ∧ Turn S S W w' := by
  have h1 := castN_any ((j + 1 : Nat) : Int) (by omega) (j + 1) (by omega) pV (by decide) W S g c (stG j) h (by omega) (stG_ok (by omega))
  rw [stG_cast (by omega)] at h1
  exact h1.mono fun e w' ⟨e1, e2⟩ => ⟨⟨_, e1⟩, e2⟩
theorem gone_l (j c : Nat) (hj : j < 20) (hc : c ≤ 1000) (h : NdA W S g (stGc j) c) :
    Calls Try.prog 14 #[.pointer (some ⟨g, 0, none⟩), .int .i64 ((j + 1 : Nat) : Int), .string ⟨#[118]⟩] W fun e w' => (∃ R, e = .returned (.tuple #[.string R, .int .i64 0])) ∧ NdA w' S g (stG (j + 1)) (c + 1) ∧ Turn S S W w' := by
  have h1 := learnN_any ((j + 1 : Nat) : Int) pV (by decide) W S g c (stGc j) h (by omega) (by show j ≤ 10000; omega)
  rw [stG_learn (by omega)] at h1
  exact h1.mono fun e w' ⟨e1, e2⟩ => ⟨⟨_, e1⟩, e2⟩
theorem gone_k (k gone c : Nat) (hk : k ≤ 20) (hg : gone ≤ k) (h : NdA W S g (stG k) c) :
    Calls Try.prog 15 #[.pointer (some ⟨g, 0, none⟩), .int .i64 (gone : Int)] W fun e w' => e = .returned (.int .i64 0) ∧ (∃ s, NdA w' S g s c ∧ GoneI k gone 0 s) ∧ Turn S S W w' := by
  have h1 := compactN_any (gone : Int) W S g c (stG k) h (by show k ≤ 10000; omega)
  obtain ⟨e1, e2⟩ := goneI_start hk hg
  rw [e1] at h1
  exact h1.mono fun e w' ⟨f1, f2, f3⟩ => ⟨f1, ⟨_, f2, e2⟩, f3⟩
theorem gone_k2 (k gone c : Nat) (hk : k ≤ 20) (s : Nd) (hs : GoneI k gone 0 s) (h : NdA W S g s c) :
    Calls Try.prog 15 #[.pointer (some ⟨g, 0, none⟩), .int .i64 ((k + 1 : Nat) : Int)] W fun e w' => e = .returned (.int .i64 2) ∧ NdA w' S g s c ∧ Turn S S W w' := by
  have h1 := compactN_any ((k + 1 : Nat) : Int) W S g c s h (by rw [hs.len]; omega)
  rw [ncompact_bad (by rw [hs.len]; omega)] at h1
  exact h1
theorem gone_w (k gone j c : Nat) (hk : k ≤ 20) (hj : j < k) (hc : c ≤ 1000) (s : Nd) (hs : GoneI k gone j s) (h : NdA W S g s c) :
    Calls Try.prog 12 #[.pointer (some ⟨g, 0, none⟩), .int .i64 ((j + 1 : Nat) : Int), .int .u64 100, .string ⟨#[119]⟩] W fun e w' => (∃ R, e = .returned (.tuple #[.string R, .int .i64 (if j + 1 ≤ gone then 90 else 0)])) ∧ (∃ s', NdA w' S g s' (c + 1) ∧ GoneI k gone (j + 1) s') ∧ Turn S S W w' := by
  have h1 := castN_any ((j + 1 : Nat) : Int) (by omega) 100 (by omega) pW (by decide) W S g c s h (by omega) hs.ok
  obtain ⟨e1, e2⟩ := goneI_step hs hk hj
  rw [e2] at h1
  exact h1.mono fun e w' ⟨f1, f2, f3⟩ => ⟨⟨_, f1⟩, ⟨_, f2, e1⟩, f3⟩
theorem gone_p (k gone c : Nat) (hk : k ≤ 20) (s : Nd) (hs : GoneI k gone k s) (h : NdA W S g s c) :
    Calls Try.prog 16 #[.pointer (some ⟨g, 0, none⟩)] W fun e w' => (∃ A cap, e = .returned (.slice A k cap)) ∧ NdA w' S g s c ∧ Below W.heap.size W w' := by
  have h1 := pref_any W S g c s h (by rw [hs.len]; omega)
  rw [hs.len] at h1
  exact h1.mono fun e w' ⟨A, cap, e1, _, e2⟩ => ⟨⟨A, cap, e1⟩, h.below e2, e2⟩
theorem gone_v (k gone c : Nat) (hk : k ≤ 20) (hg : gone ≤ k) (s : Nd) (hs : GoneI k gone k s) (h : NdA W S g s c) :
    Calls Try.prog 13 #[.pointer (some ⟨g, 0, none⟩), .int .i64 (gone : Int)] W fun e w' => e = .returned (.agg #[.int .u64 0, .int .u64 0, .string ⟨#[]⟩]) ∧ Below W.heap.size W w' := by
  have h1 := vote_any (gone : Int) (by omega) W S g c s h
  have hv : s.vote (gone : Int) = vt0 := by unfold Nd.vote; rw [hs.no _ (by omega)]; rfl
  rw [hv] at h1
  exact h1
end
set_option maxRecDepth 100000 in
set_option maxHeartbeats 4000000 in
theorem paxosGone_walk (kk gg : Int) (w : World) (hk1 : -9223372036854775808 ≤ kk) (hk2 : kk ≤ 9223372036854775807) (hg1 : -9223372036854775808 ≤ gg) (hg2 : gg ≤ 9223372036854775807) :
    Calls Try.prog 4 #[.int .i64 kk, .int .i64 gg] w fun e w' => e = .returned (.bool true) ∧ Below w.heap.size w w' := by
  by_cases h1 : kk < 1
  · go_enter Try.func4, Try.ntmps4
    go_wp2_with (go_at_call 9; refine (showP_any _).mono ?_; rintro e w0 ⟨rfl, b0⟩)
    go_ret
    exact ⟨rfl, b0⟩
  by_cases h2 : 20 < kk
  · go_enter Try.func4, Try.ntmps4
    go_wp2_with (go_at_call 9; refine (showP_any _).mono ?_; rintro e w0 ⟨rfl, b0⟩)
    go_ret
    exact ⟨rfl, b0⟩
  by_cases h3 : gg < 0
  · go_enter Try.func4, Try.ntmps4
    go_wp2_with (go_at_call 9; refine (showP_any _).mono ?_; rintro e w0 ⟨rfl, b0⟩)
    go_ret
    exact ⟨rfl, b0⟩
  by_cases h4 : kk < gg
  · go_enter Try.func4, Try.ntmps4
    go_wp2_with (go_at_call 9; refine (showP_any _).mono ?_; rintro e w0 ⟨rfl, b0⟩)
    go_ret
    exact ⟨rfl, b0⟩
  obtain ⟨k, rfl⟩ : ∃ k : Nat, kk = (k : Int) := ⟨kk.toNat, by omega⟩
  obtain ⟨gone, rfl⟩ : ∃ gone : Nat, gg = (gone : Int) := ⟨gg.toNat, by omega⟩
  have hk : k ≤ 20 := by omega
  have hgk : gone ≤ k := by omega
  go_enter Try.func4, Try.ntmps4
  go_wp2_with (first
    | (go_at_call 9; refine (showP_any _).mono ?_; rintro e w0 ⟨rfl, b0⟩; have B0 := Lib.hid b0; clear b0)
    | (go_at_call 10; refine (nnew_any _).mono ?_; rintro e w1 ⟨g, S, rfl, hg, hS, n1, b1⟩; have N1 := Lib.hid n1; have B1 := Lib.hid (bt B0.out b1); have HG := Lib.hid (fun k hk => Nat.le_trans B0.out.size (hS k hk)); clear n1 b1 hS hg))
  go_loopw [7] (fun i wr => ∃ j : Nat, j ≤ k ∧ i = .int .i64 ((j + 1 : Nat) : Int) ∧ NdA wr S g (stG j) (2 * j) ∧ Below w.heap.size w wr) (fun i _ => 22 - (intOf i).toNat)
  case atStart => exact ⟨0, by omega, rfl, by rw [stG_zero]; exact N1.out, B1.out⟩
  case round =>
    obtain ⟨j, hj, rfl, hN, hB⟩ := hrel
    have HN := Lib.hid hN
    have HB := Lib.hid hB
    clear hN hB
    by_cases hlt : j < k
    · have HC := Lib.hid (fun W => gone_c W S g j (2 * j) (by omega) (by omega))
      have HL := Lib.hid (fun W => gone_l W S g j (2 * j + 1) (by omega) (by omega))
      obtain ⟨q, hq⟩ : ∃ q, q = j + 1 := ⟨_, rfl⟩
      rw [← hq] at HC HL
      have hq2 : q ≤ k := by omega
      have e1 : (q : Int) % 18446744073709551616 = (q : Int) := by omega
      have e2 : IntKind.u64.wrap (q : Int) = (q : Int) := by simp [IntKind.wrap, IntKind.signed, IntKind.bits]; omega
      have e3 : ((j + 1 : Nat) : Int) = (q : Int) := by rw [hq]
      have HQ := Lib.hid hq
      simp only [e3]
      clear e3 hq
      go_wp2_with (first
        | (go_at_call 12; refine (HC.out _ HN.out).mono ?_; rintro e w2 ⟨⟨R2, rfl⟩, n2, t2⟩; have N2 := Lib.hid n2; have B2 := Lib.hid (Turn.below HB.out HB.out.size HG.out t2).1; clear n2 t2)
        | (go_at_call 14; refine (HL.out _ N2.out).mono ?_; rintro e w3 ⟨⟨R3, rfl⟩, n3, t3⟩; have N3 := Lib.hid n3; have B3 := Lib.hid (Turn.below B2.out B2.out.size HG.out t3).1; clear n3 t3))
      go_round
      case rel =>
        refine ⟨q, by omega, by go_num, ?_, B3.out⟩
        have hq := HQ.out
        have := N3.out
        exact this.up (by omega)
      case measure => simp [intOf]; omega
    · obtain rfl : j = k := by omega
      have HC1 := Lib.hid (fun W => gone_k W S g j gone (2 * j) hk hgk)
      have HC2 := Lib.hid (fun W s hs => gone_k2 W S g j gone (2 * j) hk s hs)
      rw [show ((j + 1 : Nat) : Int) = (j : Int) + 1 by omega] at HC2
      go_wp2_with (first
        | (go_at_call 15; with_reducible refine (HC1.out _ HN.out).mono ?_; rintro e w4 ⟨rfl, ⟨s4, n4, i4⟩, t4⟩; have N4 := Lib.hid n4; have I4 := Lib.hid i4; have B4 := Lib.hid (Turn.below HB.out HB.out.size HG.out t4).1; clear n4 i4 t4)
        | (go_at_call 15; with_reducible refine (HC2.out _ s4 I4.out N4.out).mono ?_; rintro e w5 ⟨rfl, n5, t5⟩; have N5 := Lib.hid n5; have B5 := Lib.hid (Turn.below B4.out B4.out.size HG.out t5).1; clear n5 t5))
      go_loopw [12] (fun i wr => ∃ (m : Nat) (s : Nd), m ≤ j ∧ i = .int .i64 ((m + 1 : Nat) : Int) ∧ NdA wr S g s (2 * j + m) ∧ GoneI j gone m s ∧ Below w.heap.size w wr) (fun i _ => 22 - (intOf i).toNat)
      case atStart => exact ⟨0, s4, by omega, rfl, N5.out, I4.out, B5.out⟩
      case round =>
        obtain ⟨m, s, hm, rfl, hN, hI, hB⟩ := hrel
        have HN5 := Lib.hid hN
        have HI5 := Lib.hid hI
        have HB5 := Lib.hid hB
        clear hN hI hB
        by_cases hlm : m < j
        · have HW := Lib.hid (fun W => gone_w W S g j gone m (2 * j + m) hk hlm (by omega) s HI5.out)
          obtain ⟨q, hq⟩ : ∃ q, q = m + 1 := ⟨_, rfl⟩
          rw [← hq] at HW
          have hq2 : q ≤ j := by omega
          have e3 : ((m + 1 : Nat) : Int) = (q : Int) := by rw [hq]
          have HQ := Lib.hid hq
          simp only [e3]
          clear e3 hq
          by_cases hqg : q ≤ gone
          · rw [if_pos hqg] at HW
            go_wp2_with (go_at_call 12; refine (HW.out _ HN5.out).mono ?_; rintro e w6 ⟨⟨R6, rfl⟩, ⟨s6, n6, i6⟩, t6⟩; have N6 := Lib.hid n6; have I6 := Lib.hid i6; have B6 := Lib.hid (Turn.below HB5.out HB5.out.size HG.out t6).1; clear n6 i6 t6)
            go_round
            case rel => exact ⟨q, s6, by omega, by go_num, by have := HQ.out; exact N6.out.up (by omega), I6.out, B6.out⟩
            case measure => simp [intOf]; omega
          · rw [if_neg hqg] at HW
            go_wp2_with (go_at_call 12; refine (HW.out _ HN5.out).mono ?_; rintro e w6 ⟨⟨R6, rfl⟩, ⟨s6, n6, i6⟩, t6⟩; have N6 := Lib.hid n6; have I6 := Lib.hid i6; have B6 := Lib.hid (Turn.below HB5.out HB5.out.size HG.out t6).1; clear n6 i6 t6)
            go_round
            case rel => exact ⟨q, s6, by omega, by go_num, by have := HQ.out; exact N6.out.up (by omega), I6.out, B6.out⟩
            case measure => simp [intOf]; omega
        · have hmj : m = j := by omega
          rw [hmj] at HI5
          have HP := Lib.hid (fun W => gone_p W S g j gone (2 * j + m) hk s HI5.out)
          have HV := Lib.hid (fun W => gone_v W S g j gone (2 * j + m) hk hgk s HI5.out)
          clear hmj
          go_wp2_with (first
            | (go_at_call 16; refine (HP.out _ HN5.out).mono ?_; rintro e w7 ⟨⟨A7, c7, rfl⟩, n7, b7⟩; have N7 := Lib.hid n7; have B7 := Lib.hid (bt HB5.out b7); clear n7 b7)
            | (go_at_call 13; refine (HV.out _ N7.out).mono ?_; rintro e w8 ⟨rfl, b8⟩; have B8 := Lib.hid (bt B7.out b8); clear b8))
          go_ret
          exact ⟨rfl, B8.out⟩
end Go.Proofs.Ytlboeaapmfpipaa
