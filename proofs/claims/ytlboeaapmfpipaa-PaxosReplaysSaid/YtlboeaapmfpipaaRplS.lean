/-
  The walk of PaxosReplays. Conditions: none but the arguments' own.
-/
import Derived.Test.YtlboeaapmfpipaaRplT
import Derived.Lib.QuietBelow
namespace Go.Proofs.Ytlboeaapmfpipaa
open Go.RowKit Go.Shelf Ros
attribute [local go_sem] Oper.semAt_some
set_option maxRecDepth 100000 in
set_option maxHeartbeats 8000000 in
theorem paxosReplays_walk (A : Option Addr) (n c : Nat) (xs : List Pa) (w : World) (ha : PasAt w A n xs) :
    Calls Try.prog 6 #[.slice A n c] w fun e w' => e = .returned (.bool true) ∧ Below w.heap.size w w' := by
  have HA := Lib.hid ha
  clear ha
  go_enter Try.func6, Try.ntmps6
  go_wp2_with (first
    | (go_at_call 9; refine (showP_any _).mono ?_; rintro e w0 ⟨rfl, b0⟩; have B0 := Lib.hid b0; clear b0)
    | (go_at_call 17; refine (records_any A n c xs _ (HA.out.below B0.out)).mono ?_; rintro e w1 ⟨g, S, s, l, A2, cap, rfl, hh, hl, h1⟩; have N1 := Lib.hid (h1.base B0.out); have HH := Lib.hid hh; clear h1 hh)
    | (go_at_call 10; refine (nnew_any _).mono ?_; rintro e w2 ⟨g2, S2, rfl, hg, hS, n2, b2⟩; have N2 := Lib.hid (two_start N1.out n2 hS b2); clear n2 b2 hS hg))
  have hL60 : l.length ≤ 60 := hl
  go_loopw [7] (fun i wr => ∃ (k : Nat), k ≤ 2 * l.length ∧ i = .int .i64 k ∧ NX w wr S2 g2 (mkN l k) k (T2 S (.slice A2 l.length cap)) (F2 S g s (.slice A2 l.length cap) l)) (fun i _ => 2 * l.length - (intOf i).toNat)
  case atStart => exact ⟨0, by omega, rfl, N2.out⟩
  case round =>
    obtain ⟨k, hk, rfl, hN⟩ := hrel
    by_cases hlt : k < 2 * l.length
    · have hj : k % l.length < l.length := Nat.mod_lt _ (by omega)
      obtain ⟨e1, e2⟩ := mkN_step HH.out k hlt hj
      obtain ⟨a, hlj, rfl, hab, c0⟩ := (ArgAt.of_row hN.rest.2).one (k % l.length) hj
      have hsz := chain_size l nd0 HH.out.chain _ (List.getElem_mem hj)
      have HR := Lib.hid (replay_x hN (by omega) (mkN_good l k) l[k % l.length] (by omega))
      rw [e1, ← e2] at HR
      clear e1 e2 hN hsz
      have hmd : Int.tmod (k : Int) (l.length : Int) = ((k % l.length : Nat) : Int) := by
        rw [Int.tmod_eq_emod_of_nonneg (by omega)]; omega
      generalize l[k % l.length] = r at *
      generalize k % l.length = j at *
      have hL0 : ¬ (l.length : Int) = 0 := by omega
      go_wp2_with (go_at_call 18; (with_reducible refine HR.out.mono ?_); rintro e w3 ⟨rfl, h3⟩; have N3 := Lib.hid h3; clear h3)
      go_roundw
      case rel => exact ⟨k + 1, by omega, by go_num, N3.out⟩
      case measure => simp [intOf]; omega
    · have hke : k = 2 * l.length := by omega
      subst hke
      have HN := Lib.hid hN
      clear hN
      have HSM := Lib.hid (mkN_end HH.out)
      have HG := Lib.hid (mkN_good l (2 * l.length))
      generalize mkN l (2 * l.length) = m at *
      go_wp2
      generalize 2 * l.length = cm at HN
      go_loopw [8] (fun i wr => ∃ (k : Nat), k ≤ 60 ∧ k ≤ n ∧ i = .int .i64 k ∧ NX w wr S2 g2 m cm (T2 S (.slice A2 l.length cap)) (F2 S g s (.slice A2 l.length cap) l)) (fun i _ => 60 - (intOf i).toNat)
      case atStart => exact ⟨0, by omega, by omega, rfl, HN.out⟩
      case round =>
        obtain ⟨k, hk, hkn, rfl, hN⟩ := hrel
        by_cases hlt : k < n ∧ k < 60
        · obtain ⟨hl1, hl2⟩ := hlt
          obtain ⟨a, x, rfl, hal, hxm, hox, c0, c1, c2, c3⟩ := HA.out.act2 k hl1
          have HC1 := Lib.hid (fun (W : World) (hW : NX w W S2 g2 m cm (T2 S (.slice A2 l.length cap)) (F2 S g s (.slice A2 l.length cap) l)) => show W.cell? ⟨(a.add (k * 4)).block, (a.add (k * 4)).off + 1, none⟩ = some (.int .i64 x.i) from (hW.below.cell (p := ⟨(a.add (k * 4)).block, (a.add (k * 4)).off + 1, none⟩) (show (a.add (k * 4)).block < w.heap.size by rw [add_block]; exact hal)).trans c1)
          have d4 := HC1.out _ hN
          have HN4 := Lib.hid hN
          have hd60 : decide ((k : Int) < 60) = true := by simp; omega
          have HD1 := Lib.hid (fun W (hW : NX w W S2 g2 m cm (T2 S (.slice A2 l.length cap)) (F2 S g s (.slice A2 l.length cap) l)) => decided_1 hW x.i hox.2.1)
          have HD2 := Lib.hid (fun W (hW : NX w W S2 g2 m cm (T2 S (.slice A2 l.length cap)) (F2 S g s (.slice A2 l.length cap) l)) => decided_x hW x.i hox.2.1)
          have HV1 := Lib.hid (fun W (hW : NX w W S2 g2 m cm (T2 S (.slice A2 l.length cap)) (F2 S g s (.slice A2 l.length cap) l)) => vote_any x.i hox.2.1 W S g 60 s hW.rest.1)
          have HV2 := Lib.hid (fun W (hW : NX w W S2 g2 m cm (T2 S (.slice A2 l.length cap)) (F2 S g s (.slice A2 l.length cap) l)) => vote_any x.i hox.2.1 W S2 g2 cm m hW.nd)
          rw [← HSM.out.known x.i] at HD2
          rw [← HSM.out.vote x.i] at HV2
          have hq := vt_neq_same (s.vote x.i)
          generalize (s.known x.i).isSome = yb at *
          generalize (s.known x.i).getD ⟨#[]⟩ = ys at *
          generalize s.vote x.i = v at *
          unfold encVt at HV1 HV2 hq
          clear hN hox c0 c1 c2 c3
          go_wp2_with (first
            | (go_at_call 20; (with_reducible refine (HD1.out _ HN4.out).mono ?_); rintro e w5 ⟨rfl, h5⟩; have N5 := Lib.hid h5; have d5 := HC1.out _ h5; clear h5)
            | (go_at_call 20; (with_reducible refine (HD2.out _ N5.out).mono ?_); rintro e w6 ⟨rfl, h6⟩; have N6 := Lib.hid h6; have d6 := HC1.out _ h6; clear h6))
          have hcr := fun d os => cell_regrown d6 d os
          have q1 : ∀ d os, _ := fun d os => Calls.regrown_of (HV1.out (Sort.grow (redrawn w6 d) os) (N6.out.on (below_regrown w6 d os)))
          have q2 : ∀ d os, _ := fun d os => Calls.regrown_of (HV2.out (Sort.grow (redrawn w6 d) os) (N6.out.on (below_regrown w6 d os)))
          refine wp_region_quiet_below (by kernel_rfl) (by kernel_rfl) ?_
          repeat (go_big_quiet_step (first | with_reducible exact q1 _ _ | with_reducible exact q2 _ _))
          refine wpQuiet_nil ?_
          intro _ hw'
          obtain ⟨⟨dq, osq⟩, hw''⟩ := hw'
          subst hw''
          go_wp2
          go_roundw
          case rel => exact ⟨k + 1, by omega, by omega, by go_num, N6.out.on (below_regrown w6 dq osq)⟩
          case measure => simp [intOf]; omega
        · have HN4 := Lib.hid hN
          have hpt := prefT_same HSM.out
          have hln := HSM.out.len
          have hml := HG.out.1.2.1
          have HP1 := Lib.hid (fun W (hW : NX w W S2 g2 m cm (T2 S (.slice A2 l.length cap)) (F2 S g s (.slice A2 l.length cap) l)) => pref_1 hW (by omega))
          have HP2 := Lib.hid (fun W (hW : NX w W S2 g2 m cm (T2 S (.slice A2 l.length cap)) (F2 S g s (.slice A2 l.length cap) l)) => pref_2 hW hml)
          have HSS := Lib.hid (fun (A5 A6 : Option Addr) (c5 c6 : Nat) (W : World) (h5 : ArgAt W 1 A5 s.len ((prefT s s.len).map Value.string)) (h6 : ArgAt W 1 A6 m.len ((prefT m m.len).map Value.string)) => by
            have := strSame_any A5 A6 c5 c6 (prefT s s.len) (prefT m m.len) W (by rw [prefT_len]; exact h5) (by rw [prefT_len]; exact h6) (by rw [prefT_len]; unfold maxLen; omega) (by rw [prefT_len]; unfold maxLen; omega)
            rw [decide_eq_true hpt, prefT_len, prefT_len] at this
            exact this)
          have hend : (k : Int) < (n : Int) → decide ((k : Int) < 60) = false := fun _ => by simp; omega
          clear hN hpt hln hml
          by_cases hkn2 : k < n
          · have hd60 : decide ((k : Int) < 60) = false := by simp; omega
            go_wp2_with (first
              | (go_at_call 16; (with_reducible refine (HP1.out _ HN4.out).mono ?_); rintro e w7 ⟨A5, c5, rfl, ha5, _, b7, h7⟩; have N7 := Lib.hid h7; have P7 := Lib.hid ha5; clear h7 ha5)
              | (go_at_call 16; (with_reducible refine (HP2.out _ N7.out).mono ?_); rintro e w8 ⟨A6, c6, rfl, ha6, _, b8, h8⟩; have N8 := Lib.hid h8; have P8 := Lib.hid ha6; clear h8 ha6)
              | (go_at_call 19; (with_reducible refine (HSS.out A5 A6 c5 c6 _ (P7.out.below b8) P8.out).mono ?_); rintro e w9 ⟨rfl, b9⟩; have N9 := Lib.hid (N8.out.on b9)))
            go_ret
            exact ⟨rfl, N9.out.below⟩
          · go_wp2_with (first
              | (go_at_call 16; (with_reducible refine (HP1.out _ HN4.out).mono ?_); rintro e w7 ⟨A5, c5, rfl, ha5, _, b7, h7⟩; have N7 := Lib.hid h7; have P7 := Lib.hid ha5; clear h7 ha5)
              | (go_at_call 16; (with_reducible refine (HP2.out _ N7.out).mono ?_); rintro e w8 ⟨A6, c6, rfl, ha6, _, b8, h8⟩; have N8 := Lib.hid h8; have P8 := Lib.hid ha6; clear h8 ha6)
              | (go_at_call 19; (with_reducible refine (HSS.out A5 A6 c5 c6 _ (P7.out.below b8) P8.out).mono ?_); rintro e w9 ⟨rfl, b9⟩; have N9 := Lib.hid (N8.out.on b9)))
            go_ret
            exact ⟨rfl, N9.out.below⟩
end Go.Proofs.Ytlboeaapmfpipaa
