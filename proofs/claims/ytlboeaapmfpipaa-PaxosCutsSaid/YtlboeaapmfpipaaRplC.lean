/-
  The walk of PaxosCuts. Conditions: none but the arguments' own.
-/
import Derived.Test.YtlboeaapmfpipaaRplT
namespace Ros
open Go Go.RowKit
structure CutN (s m : Nd) : Prop where
  p : ∀ i, (m.vote i).p ≤ (s.vote i).p
  b : ∀ i, (m.vote i).b ≤ (s.vote i).b
  len : m.len ≤ s.len
  pref : (prefT s s.len).take m.len = prefT m m.len
  good : m.good
theorem cut_end {s : Nd} {l : List ByteArray} (h : Hist s l) (k : Nat) : CutN s (play nd0 (l.take k)) := by
  obtain ⟨c1, c2⟩ := chain_take l nd0 k h.chain
  have hg := (chain_up _ nd0 rfl c1).1
  obtain ⟨g1, g2⟩ := play_good (l.take k) nd0 nd0_good
  have u := (chain_up _ _ hg c2).2
  obtain ⟨u1, _⟩ := play_good (l.drop k) _ g2
  rw [play_take] at u u1
  refine ⟨fun i => by rw [h.same.vote]; exact (u i).1, fun i => by rw [h.same.vote]; exact (u i).2, by rw [h.same.len]; exact u1.2, ?_, g2⟩
  rw [prefT_same h.same]
  exact prefT_grows u1 g2.2
theorem cut_step {s : Nd} {l : List ByteArray} (h : Hist s l) (k : Nat) (hk : k < l.length) : (nreplay (play nd0 (l.take k)) l[k]).1 = 0 ∧ play nd0 (l.take (k + 1)) = (nreplay (play nd0 (l.take k)) l[k]).2 :=
  ⟨chain_err l nd0 rfl h.chain k hk, by rw [List.take_succ_eq_append_getElem hk, play_snoc]⟩
end Ros
namespace Go.Proofs.Ytlboeaapmfpipaa
open Go.RowKit Go.Shelf Ros
attribute [local go_sem] Oper.semAt_some
set_option maxRecDepth 100000 in
set_option maxHeartbeats 8000000 in
theorem paxosCuts_walk (A : Option Addr) (n c : Nat) (xs : List Pa) (kk : Int) (w : World) (ha : PasAt w A n xs) (hk1 : -9223372036854775808 ≤ kk) (hk2 : kk ≤ 9223372036854775807) :
    Calls Try.prog 5 #[.slice A n c, .int .i64 kk] w fun e w' => e = .returned (.bool true) ∧ Below w.heap.size w w' := by
  have HA := Lib.hid ha
  clear ha
  by_cases hneg : kk < 0
  · go_enter Try.func5, Try.ntmps5
    go_wp2_with (first
      | (go_at_call 9; refine (showP_any _).mono ?_; rintro e w0 ⟨rfl, b0⟩; have B0 := Lib.hid b0; clear b0)
      | (go_at_call 17; refine (records_any A n c xs _ (HA.out.below B0.out)).mono ?_; rintro e w1 ⟨g, S, s, l, A2, cap, rfl, hh, hl, h1⟩; have N1 := Lib.hid (h1.base B0.out); have HH := Lib.hid hh; clear h1 hh))
    go_ret
    exact ⟨rfl, N1.out.below⟩
  obtain ⟨K, rfl⟩ : ∃ K : Nat, kk = (K : Int) := ⟨kk.toNat, by omega⟩
  go_enter Try.func5, Try.ntmps5
  go_wp2_with (first
    | (go_at_call 9; refine (showP_any _).mono ?_; rintro e w0 ⟨rfl, b0⟩; have B0 := Lib.hid b0; clear b0)
    | (go_at_call 17; refine (records_any A n c xs _ (HA.out.below B0.out)).mono ?_; rintro e w1 ⟨g, S, s, l, A2, cap, rfl, hh, hl, h1⟩; have N1 := Lib.hid (h1.base B0.out); have HH := Lib.hid hh; clear h1 hh)
    | (go_at_call 10; refine (nnew_any _).mono ?_; rintro e w2 ⟨g2, S2, rfl, hg, hS, n2, b2⟩; have N2 := Lib.hid (two_start N1.out n2 hS b2); clear n2 b2 hS hg))
  · go_ret
    exact ⟨rfl, N1.out.below⟩
  have hKl : K ≤ l.length := by omega
  go_loopw [9] (fun i wr => ∃ (k : Nat), k ≤ K ∧ i = .int .i64 k ∧ NX w wr S2 g2 (play nd0 (l.take k)) k (T2 S (.slice A2 l.length cap)) (F2 S g s (.slice A2 l.length cap) l)) (fun i _ => K - (intOf i).toNat)
  case atStart => exact ⟨0, by omega, rfl, N2.out⟩
  case round =>
    obtain ⟨k, hk, rfl, hN⟩ := hrel
    by_cases hlt : k < K
    · have hj : k < l.length := by omega
      obtain ⟨e1, e2⟩ := cut_step HH.out k hj
      obtain ⟨a, hlj, rfl, hab, c0⟩ := (ArgAt.of_row hN.rest.2).one k hj
      have hsz := chain_size l nd0 HH.out.chain _ (List.getElem_mem hj)
      have HR := Lib.hid (replay_x hN (by omega) (play_good (l.take k) nd0 nd0_good).2 l[k] (by omega))
      rw [e1, ← e2] at HR
      clear e1 e2 hN hsz
      generalize l[k] = r at *
      go_wp2_with (go_at_call 18; (with_reducible refine HR.out.mono ?_); rintro e w3 ⟨rfl, h3⟩; have N3 := Lib.hid h3; clear h3)
      go_roundw
      case rel => exact ⟨k + 1, by omega, by go_num, N3.out⟩
      case measure => simp [intOf]; omega
    · have hke : k = K := by omega
      subst hke
      have HN := Lib.hid hN
      clear hN
      have HCT := Lib.hid (cut_end HH.out k)
      go_wp2
      generalize play nd0 (l.take k) = m at *
      go_loopw [10] (fun i wr => ∃ (j : Nat), j ≤ 60 ∧ j ≤ n ∧ i = .int .i64 j ∧ NX w wr S2 g2 m k (T2 S (.slice A2 l.length cap)) (F2 S g s (.slice A2 l.length cap) l)) (fun i _ => 60 - (intOf i).toNat)
      case atStart => exact ⟨0, by omega, by omega, rfl, HN.out⟩
      case round =>
        obtain ⟨j, hj, hjn, rfl, hN⟩ := hrel
        by_cases hlt : j < n ∧ j < 60
        · obtain ⟨hl1, hl2⟩ := hlt
          obtain ⟨a, x, rfl, hal, hxm, hox, c0, c1, c2, c3⟩ := HA.out.act2 j hl1
          have HC1 := Lib.hid (fun (W : World) (hW : NX w W S2 g2 m k (T2 S (.slice A2 l.length cap)) (F2 S g s (.slice A2 l.length cap) l)) => show W.cell? ⟨(a.add (j * 4)).block, (a.add (j * 4)).off + 1, none⟩ = some (.int .i64 x.i) from (hW.below.cell (p := ⟨(a.add (j * 4)).block, (a.add (j * 4)).off + 1, none⟩) (show (a.add (j * 4)).block < w.heap.size by rw [add_block]; exact hal)).trans c1)
          have d4 := HC1.out _ hN
          have HN4 := Lib.hid hN
          have hd60 : decide ((j : Int) < 60) = true := by simp; omega
          have HV1 := Lib.hid (fun W (hW : NX w W S2 g2 m k (T2 S (.slice A2 l.length cap)) (F2 S g s (.slice A2 l.length cap) l)) => vote_any x.i hox.2.1 W S g 60 s hW.rest.1)
          have HV2 := Lib.hid (fun W (hW : NX w W S2 g2 m k (T2 S (.slice A2 l.length cap)) (F2 S g s (.slice A2 l.length cap) l)) => vote_any x.i hox.2.1 W S2 g2 k m hW.nd)
          have hp := HCT.out.p x.i
          have hb := HCT.out.b x.i
          generalize m.vote x.i = v2 at *
          generalize s.vote x.i = v1 at *
          have hp2 : decide ((v2.p : Int) > (v1.p : Int)) = false := by simp; omega
          have hb2 : decide ((v2.b : Int) > (v1.b : Int)) = false := by simp; omega
          unfold encVt at HV1 HV2
          clear hN hox c0 c1 c2 c3
          go_wp2_with (first
            | (go_at_call 13; (with_reducible refine (HV2.out _ HN4.out).mono ?_); rintro e w5 ⟨rfl, b5⟩; have N5 := Lib.hid ((HN4.out.on b5).alloc (.cells #[.int .u64 (v2.p : Int), .int .u64 (v2.b : Int), .string v2.s] 27)); have d5 := HC1.out _ N5.out; clear b5)
            | (go_at_call 13; (with_reducible refine (HV1.out _ N5.out).mono ?_); rintro e w6 ⟨rfl, b6⟩; have N6 := Lib.hid (N5.out.on b6); have O6 := boxes1 b6; obtain ⟨x0, x1, x2, _, _, _, x6⟩ := cells3 O6; clear b6 O6))
          go_roundw
          case rel => exact ⟨j + 1, by omega, by omega, by go_num, N6.out.alloc _⟩
          case measure => simp [intOf]; omega
        · have HN4 := Lib.hid hN
          have hpt := HCT.out.pref
          have hle := HCT.out.len
          have hml := HCT.out.good.1.2.1
          have hsl := HH.out.good.1.2.1
          obtain ⟨i0, hi0, hz0, hz1, hz2⟩ := info_parts str_info
          clear hz0 hz1 hz2
          have HP1 := Lib.hid (fun W (hW : NX w W S2 g2 m k (T2 S (.slice A2 l.length cap)) (F2 S g s (.slice A2 l.length cap) l)) => pref_1 hW hsl)
          have HP2 := Lib.hid (fun W (hW : NX w W S2 g2 m k (T2 S (.slice A2 l.length cap)) (F2 S g s (.slice A2 l.length cap) l)) => pref_2 hW hml)
          have hslc := fun (A3 : Option Addr) (cap3 : Nat) (h : s.len ≤ cap3) => slice_h (P := Try.prog) Try.underlying37 hi0 A3 s.len cap3 m.len (by omega)
          have HTK2 := Lib.hid (fun (A3 : Option Addr) (W : World) (h : ArgAt W 1 A3 s.len ((prefT s s.len).map Value.string)) => by
            have h1 := h.take_ (k := m.len) hle
            rw [Nat.mul_one, ← List.map_take, hpt] at h1
            exact h1)
          have HSS := Lib.hid (fun (A5 A6 : Option Addr) (c5 c6 : Nat) (W : World) (h5 : ArgAt W 1 A5 m.len ((prefT m m.len).map Value.string)) (h6 : ArgAt W 1 A6 m.len ((prefT m m.len).map Value.string)) => by
            have := strSame_any A5 A6 c5 c6 (prefT m m.len) (prefT m m.len) W (by rw [prefT_len]; exact h5) (by rw [prefT_len]; exact h6) (by rw [prefT_len]; unfold maxLen; omega) (by rw [prefT_len]; unfold maxLen; omega)
            rw [decide_eq_true (rfl : prefT m m.len = prefT m m.len), prefT_len] at this
            exact this)
          clear hN hpt
          by_cases hkn2 : j < n
          · have hd60 : decide ((j : Int) < 60) = false := by simp; omega
            go_wp2_with (first
              | (go_at_call 16; (with_reducible refine (HP2.out _ HN4.out).mono ?_); rintro e w7 ⟨A5, c5, rfl, ha5, _, b7, h7⟩; have N7 := Lib.hid h7; have P7 := Lib.hid ha5; clear h7 ha5)
              | (go_at_call 16; (with_reducible refine (HP1.out _ N7.out).mono ?_); rintro e w8 ⟨A6, c6, rfl, ha6, hc6, b8, h8⟩; have N8 := Lib.hid h8; have P8 := Lib.hid ha6; have hs6 := hslc A6 c6 hc6; clear h8 ha6)
              | (go_at_call 19; (with_reducible refine (HSS.out A5 A6 c5 c6 _ (P7.out.below b8) (HTK2.out A6 _ P8.out)).mono ?_); rintro e w9 ⟨rfl, b9⟩; have N9 := Lib.hid (N8.out.on b9)))
            go_ret
            exact ⟨rfl, N9.out.below⟩
          · go_wp2_with (first
              | (go_at_call 16; (with_reducible refine (HP2.out _ HN4.out).mono ?_); rintro e w7 ⟨A5, c5, rfl, ha5, _, b7, h7⟩; have N7 := Lib.hid h7; have P7 := Lib.hid ha5; clear h7 ha5)
              | (go_at_call 16; (with_reducible refine (HP1.out _ N7.out).mono ?_); rintro e w8 ⟨A6, c6, rfl, ha6, hc6, b8, h8⟩; have N8 := Lib.hid h8; have P8 := Lib.hid ha6; have hs6 := hslc A6 c6 hc6; clear h8 ha6)
              | (go_at_call 19; (with_reducible refine (HSS.out A5 A6 c5 c6 _ (P7.out.below b8) (HTK2.out A6 _ P8.out)).mono ?_); rintro e w9 ⟨rfl, b9⟩; have N9 := Lib.hid (N8.out.on b9)))
            go_ret
            exact ⟨rfl, N9.out.below⟩
end Go.Proofs.Ytlboeaapmfpipaa
