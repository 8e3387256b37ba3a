/-
  The walk of PaxosLearns. Conditions: none but the arguments' own.
-/
import Derived.Test.YtlboeaapmfpipaaLeA
import Derived.Deep.CutBlock
import Derived.BigQuiet
namespace Go.Proofs.Ytlboeaapmfpipaa
open Go.RowKit Go.Shelf Ros
attribute [local go_sem] Oper.semAt_some
def boxP (W : World) (G : Nat) (x : Pa) : Prop := W.heap[G]? = some (.cells #[.int .i64 x.d, .int .i64 x.i, .int .u64 (x.b : Int), .string x.s] 45 (0, 0))
/-- A slice's block. -/
def TA (A : Option Addr) (n : Nat) : Nat → Prop := fun j => ∃ a, A = some a ∧ 0 < n ∧ j = a.block
theorem frame_TA {A : Option Addr} {n : Nat} {l : List Value} {X Y : World} (hs : X.heap.size ≤ Y.heap.size) (hk : ∀ k, TA A n k → Y.heap[k]? = X.heap[k]?) (h : ArgAt X 1 A n l) : ArgAt Y 1 A n l :=
  h.keep hs fun a ha h0 => hk _ ⟨a, ha, h0, rfl⟩
theorem NX.took {w0 W W' : World} {S : Nat → Prop} {g c : Nat} {s : Nd} {T : Nat → Prop} {F : World → Prop} {A : Option Addr} {n : Nat} {l : List Value} (h : NX w0 W S g s c T F) (h' : NX w0 W' S g s c T F) (ha : ArgAt W' 1 A n l) (hn : ∀ a, A = some a → W.heap.size ≤ a.block) : NX w0 W' S g s c (TA A n) (fun W => ArgAt W 1 A n l) :=
  h'.more (fun k hk => by
    obtain ⟨a, h1, h2, rfl⟩ := hk
    obtain ⟨a', h3, h4, _⟩ := ha.2 h2
    rw [h1] at h3
    cases h3
    have h5 := hn a h1
    exact .inr ⟨h4, fun e => by have := h.nd.lt _ e; omega, Nat.le_trans h.below.size h5⟩) (fun X Y hs hk h => frame_TA hs hk h) (fun _ => ha)
end Go.Proofs.Ytlboeaapmfpipaa
namespace Ros
open Go Go.RowKit Go.Shelf Go.Proofs.Ytlboeaapmfpipaa
theorem PasAt.act2 {w : World} {A : Option Addr} {n : Nat} {xs : List Pa} (h : PasAt w A n xs) (k : Nat) (hk : k < n) :
    ∃ (a : Addr) (x : Pa), A = some a ∧ a.block < w.heap.size ∧ x ∈ xs ∧ x.ok ∧ w.cell? (a.add (k * 4)) = some (.int .i64 x.d) ∧ w.cell? ⟨(a.add (k * 4)).block, (a.add (k * 4)).off + 1, none⟩ = some (.int .i64 x.i) ∧ w.cell? ⟨(a.add (k * 4)).block, (a.add (k * 4)).off + 2, none⟩ = some (.int .u64 (x.b : Int)) ∧ w.cell? ⟨(a.add (k * 4)).block, (a.add (k * 4)).off + 3, none⟩ = some (.string x.s) := by
  obtain ⟨a, x, h1, h2, h3, h4, c0, c1, c2, c3⟩ := h.act k hk
  rw [add_pos' _ 1 (by omega)] at c1
  rw [add_pos' _ 2 (by omega)] at c2
  rw [add_pos' _ 3 (by omega)] at c3
  exact ⟨a, x, h1, h2, h3, h4, c0, c1, c2, c3⟩
end Ros
namespace Go.Proofs.Ytlboeaapmfpipaa
open Go.RowKit Go.Shelf Ros
attribute [local go_sem] Oper.semAt_some
set_option maxRecDepth 100000 in
set_option maxHeartbeats 8000000 in
theorem paxosLearns_walk (A : Option Addr) (n c : Nat) (xs : List Pa) (w : World) (ha : PasAt w A n xs) :
    Calls Try.prog 7 #[.slice A n c] w fun e w' => e = .returned (.bool true) ∧ Below w.heap.size w w' := by
  obtain ⟨i0, hi0, hz0, hz1, hz2⟩ := info_parts str_info
  clear hz0 hz1 hz2
  have HA := Lib.hid ha
  clear ha
  go_enter Try.func7, Try.ntmps7
  go_wp2_with (first
    | (go_at_call 9; refine (showP_any _).mono ?_; rintro e w0 ⟨rfl, b0⟩; have B0 := Lib.hid b0; clear b0)
    | (go_at_call 10; refine (nnew_any _).mono ?_; rintro e w1 ⟨g, S, rfl, hg, hS, n1, b1⟩; have N1 := Lib.hid (show NX w w1 S g nd0 0 (fun _ => False) (fun _ => True) from ⟨n1, bt B0.out b1, fun k hk => Nat.le_trans B0.out.size (hS k hk), fun _ hk => hk.elim, fun _ _ _ _ _ => trivial, trivial⟩); clear n1 b1 hS hg B0))
  go_loopw [5, 6] (fun was i wr => ∃ (k : Nat) (s : Nd) (A2 : Option Addr) (cap : Nat), k ≤ 60 ∧ k ≤ n ∧ i = .int .i64 k ∧ was = .slice A2 s.len cap ∧ s.good ∧ NX w wr S g s k (TA A2 s.len) (fun W => ArgAt W 1 A2 s.len ((prefT s s.len).map Value.string))) (fun _ i _ => 60 - (intOf i).toNat)
  case atStart => exact ⟨0, nd0, none, 0, by omega, by omega, rfl, rfl, nd0_good, N1.out.more (fun k hk => by obtain ⟨a, h, _⟩ := hk; cases h) (fun X Y hs hk h => frame_TA hs hk h) (fun _ => ArgAt.nil)⟩
  case round =>
    obtain ⟨k, s, A2, cap, hk, hkn, rfl, rfl, hs, hN⟩ := hrel
    by_cases hlt : k < n ∧ k < 60
    · obtain ⟨hl1, hl2⟩ := hlt
      obtain ⟨a, x, rfl, hal, hxm, hox, c0, c1, c2, c3⟩ := (HA.out.below hN.below).act2 k hl1
      have HX := Lib.hid hox
      have HN := Lib.hid hN
      have HS := Lib.hid hs
      have HD := Lib.hid (fun W (hW : NX w W S g s k (fun j => TA A2 s.len j ∨ j = wr.heap.size) (fun W => ArgAt W 1 A2 s.len ((prefT s s.len).map Value.string) ∧ boxP W wr.heap.size x)) => decided_x hW x.i hox.2.1)
      have HN2 := Lib.hid (show NX w (wr.alloc (.cells #[.int .i64 x.d, .int .i64 x.i, .int .u64 (x.b : Int), .string x.s] 45)) S g s k (fun j => TA A2 s.len j ∨ j = wr.heap.size) (fun W => ArgAt W 1 A2 s.len ((prefT s s.len).map Value.string) ∧ boxP W wr.heap.size x) from
        (hN.alloc _).more (fun j hj => hj.elim .inl (fun e => .inr ⟨by subst e; simp, by rw [e]; exact hN.new.1, by rw [e]; exact hN.new.2⟩)) (fun X Y hs hk h => ⟨frame_TA hs (fun k h => hk _ (.inl h)) h.1, (hk _ (.inr rfl)).trans h.2⟩) (fun h => ⟨h, World.alloc_heap_new wr _⟩))
      clear hN hs hox
      go_upto_block 2 with (first
        | (go_at_call 20; (with_reducible refine (HD.out _ HN2.out).mono ?_); rintro e w2 ⟨rfl, h2⟩; have N2 := Lib.hid h2; have X2 := Lib.hid h2.rest.2; obtain ⟨a0, a1, a2, a3⟩ := cells4 X2.out; have Z2 := obj_lt X2.out; clear h2))
      clear c0 c1 c2 c3 hal HN2 HD HN
      have HP := Lib.hid (fun W (hW : NX w W S g s k (fun j => TA A2 s.len j ∨ j = wr.heap.size) (fun W => ArgAt W 1 A2 s.len ((prefT s s.len).map Value.string) ∧ boxP W wr.heap.size x)) => prom_x hW (by omega) HS.out x.i HX.out.2.1 x.b HX.out.2.2.1)
      have HC := Lib.hid (fun W (hW : NX w W S g s k (fun j => TA A2 s.len j ∨ j = wr.heap.size) (fun W => ArgAt W 1 A2 s.len ((prefT s s.len).map Value.string) ∧ boxP W wr.heap.size x)) => cast_x hW (by omega) HS.out x.i HX.out.2.1 x.b HX.out.2.2.1 (textP x) (textP_size x))
      have HL := Lib.hid (fun W (hW : NX w W S g s k (fun j => TA A2 s.len j ∨ j = wr.heap.size) (fun W => ArgAt W 1 A2 s.len ((prefT s s.len).map Value.string) ∧ boxP W wr.heap.size x)) => learn_x hW (by omega) HS.out x.i (textP x) (textP_size x))
      have HK := Lib.hid (fun W (hW : NX w W S g s k (fun j => TA A2 s.len j ∨ j = wr.heap.size) (fun W => ArgAt W 1 A2 s.len ((prefT s s.len).map Value.string) ∧ boxP W wr.heap.size x)) => compact_x hW HS.out x.i)
      have HR := Lib.hid (fun W (hW : NX w W S g s k (fun j => TA A2 s.len j ∨ j = wr.heap.size) (fun W => ArgAt W 1 A2 s.len ((prefT s s.len).map Value.string) ∧ boxP W wr.heap.size x)) => replay_x hW (by omega) HS.out (textP x) (by have := textP_size x; omega))
      have HT := Lib.hid (fun W => ptext_any x W HX.out.2.2.2)
      go_cut [] from 39 to 77 (fun wx => ∃ s', NdUp s s' ∧ s'.good ∧ NX w wx S g s' (k + 1) (fun j => TA A2 s.len j ∨ j = wr.heap.size) (fun W => ArgAt W 1 A2 s.len ((prefT s s.len).map Value.string) ∧ boxP W wr.heap.size x))
      case first =>
        rcases do5 x.d with hm | hm | hm | hm | hm
        · clear HC HL HK HR HT
          have U := Lib.hid (nprom_step HS.out x HX.out)
          go_wp2_with (go_at_call 11; (with_reducible refine (HP.out _ N2.out).mono ?_); rintro e w3 ⟨rfl, h3⟩; have N3 := Lib.hid h3; clear h3)
          go_meet
          exact ⟨_, U.out.1, U.out.2, N3.out⟩
        · clear HP HL HK HR
          have U := Lib.hid (ncast_step HS.out x HX.out)
          go_wp2
          go_region_held3 (fun w' => w'.cell? ⟨wr.heap.size, 0, none⟩ = some (.int .i64 x.d) ∧ w'.cell? ⟨wr.heap.size, 1, none⟩ = some (.int .i64 x.i) ∧ w'.cell? ⟨wr.heap.size, 2, none⟩ = some (.int .u64 (x.b : Int)) ∧ w'.cell? ⟨wr.heap.size, 3, none⟩ = some (.string x.s)) (first | exact cells4 h3.rest.2 | go_keep) ((first
            | (go_simp; go_at_call 21; (with_reducible refine (HT.out _).mono ?_); rintro e w3 ⟨rfl, b3⟩; have h3 := N2.out.drew.on b3; have N3 := Lib.hid h3)
            | (go_simp; go_at_call 12; (with_reducible refine (HC.out _ N3.out).mono ?_); rintro e w4 ⟨rfl, h3⟩; have N4 := Lib.hid h3)))
          go_wp2
          go_meet
          exact ⟨_, U.out.1, U.out.2, N4.out⟩
        · clear HP HC HK HR
          have U := Lib.hid (nlearn_step HS.out x.i (textP x))
          go_wp2
          go_region_held3 (fun w' => w'.cell? ⟨wr.heap.size, 0, none⟩ = some (.int .i64 x.d) ∧ w'.cell? ⟨wr.heap.size, 1, none⟩ = some (.int .i64 x.i) ∧ w'.cell? ⟨wr.heap.size, 2, none⟩ = some (.int .u64 (x.b : Int)) ∧ w'.cell? ⟨wr.heap.size, 3, none⟩ = some (.string x.s)) (first | exact cells4 h3.rest.2 | go_keep) ((first
            | (go_simp; go_at_call 21; (with_reducible refine (HT.out _).mono ?_); rintro e w3 ⟨rfl, b3⟩; have h3 := N2.out.drew.on b3; have N3 := Lib.hid h3)
            | (go_simp; go_at_call 14; (with_reducible refine (HL.out _ N3.out).mono ?_); rintro e w4 ⟨rfl, h3⟩; have N4 := Lib.hid h3)))
          go_wp2
          go_meet
          exact ⟨_, U.out.1, U.out.2, N4.out⟩
        · clear HP HC HL HR HT
          have U := Lib.hid (ncompact_step HS.out x.i)
          go_wp2_with (go_at_call 15; (with_reducible refine (HK.out _ N2.out).mono ?_); rintro e w3 ⟨rfl, h3⟩; have N3 := Lib.hid h3; clear h3)
          go_meet
          exact ⟨_, U.out.1, U.out.2, N3.out.up (by omega)⟩
        · clear HP HC HL HK
          have U := Lib.hid (nreplay_step HS.out (textP x))
          go_wp2_with (first
            | (go_at_call 21; (with_reducible refine (HT.out _).mono ?_); rintro e w3 ⟨rfl, b3⟩; have N3 := Lib.hid (N2.out.on b3); clear b3)
            | (go_at_call 18; (with_reducible refine (HR.out _ N3.out).mono ?_); rintro e w4 ⟨rfl, h3⟩; have N4 := Lib.hid h3; clear h3))
          go_meet
          exact ⟨_, U.out.1, U.out.2, N4.out⟩
      case rest =>
        obtain ⟨s', hu, hg', hN'⟩ := hcut
        have N5 := Lib.hid hN'
        obtain ⟨a0, a1, a2, a3⟩ := cells4 hN'.rest.2
        have Z2 := obj_lt hN'.rest.2
        have HUP := Lib.hid hu
        have HG' := Lib.hid hg'
        have hl5 := hg'.1.2.1
        have hle := hu.2
        have HD := Lib.hid (fun W (hW : NX w W S g s' (k + 1) (fun j => TA A2 s.len j ∨ j = wr.heap.size) (fun W => ArgAt W 1 A2 s.len ((prefT s s.len).map Value.string) ∧ boxP W wr.heap.size x)) => decided_x hW x.i HX.out.2.1)
        have HQ := Lib.hid (fun W (hW : NX w W S g s' (k + 1) (fun j => TA A2 s.len j ∨ j = wr.heap.size) (fun W => ArgAt W 1 A2 s.len ((prefT s s.len).map Value.string) ∧ boxP W wr.heap.size x)) => pref_x hW hl5)
        have hsl := fun (A3 : Option Addr) (cap3 : Nat) (h : s'.len ≤ cap3) => slice_h (P := Try.prog) Try.underlying37 hi0 A3 s'.len cap3 s.len (by omega)
        have HTK := Lib.hid (prefT_grows hu HS.out.2)
        have HSM := Lib.hid (fun (A3 : Option Addr) (cap3 : Nat) (W : World) (h1 : ArgAt W 1 A3 s.len ((prefT s s.len).map Value.string)) (h2 : ArgAt W 1 A2 s.len ((prefT s s.len).map Value.string)) => by
          have := strSame_any A3 A2 cap3 cap (prefT s s.len) (prefT s s.len) W (by rw [prefT_len]; exact h1) (by rw [prefT_len]; exact h2) (by rw [prefT_len]; unfold maxLen; omega) (by rw [prefT_len]; unfold maxLen; omega)
          rw [prefT_len, decide_eq_true (rfl : prefT s s.len = prefT s s.len)] at this
          exact this)
        have HTK2 := Lib.hid (fun (A3 : Option Addr) (W : World) (h : ArgAt W 1 A3 s'.len ((prefT s' s'.len).map Value.string)) => by
          have h1 := h.take_ (k := s.len) hle
          rw [Nat.mul_one, ← List.map_take, HTK.out] at h1
          exact h1)
        clear hN' hu hg' HP HC HL HK HR HT N2 X2
        cases hkn : s.known x.i with
        | none =>
          go_wp2_with (first
            | (go_at_call 20; (with_reducible refine (HD.out _ N5.out).mono ?_); rintro e w6 ⟨rfl, h6⟩; have N6 := Lib.hid h6; clear h6)
            | (go_at_call 16; (with_reducible refine (HQ.out _ N6.out).mono ?_); rintro e w7 ⟨A3, cap3, rfl, hA3, hn3, hc3, h7⟩; have N7 := Lib.hid h7; have P7 := Lib.hid hA3; have B7 := Lib.hid hn3; have hsl3 := hsl A3 cap3 hc3; clear h7 hA3 hn3)
            | (go_at_call 19; (with_reducible refine (HSM.out A3 cap3 _ (HTK2.out A3 _ P7.out) N7.out.rest.1).mono ?_); rintro e w8 ⟨rfl, b8⟩; have N8 := Lib.hid ((N6.out.took N7.out P7.out B7.out).on b8); clear b8))
          go_roundw
          case rel => exact ⟨k + 1, s', A3, cap3, by omega, by omega, by go_num, rfl, HG'.out, N8.out⟩
          case measure => simp [intOf]; omega
        | some v =>
          have hkn' := HUP.out.1 _ _ hkn
          rw [hkn'] at HD
          go_wp2_with (first
            | (go_at_call 20; (with_reducible refine (HD.out _ N5.out).mono ?_); rintro e w6 ⟨rfl, h6⟩; have N6 := Lib.hid h6; clear h6)
            | (go_at_call 16; (with_reducible refine (HQ.out _ N6.out).mono ?_); rintro e w7 ⟨A3, cap3, rfl, hA3, hn3, hc3, h7⟩; have N7 := Lib.hid h7; have P7 := Lib.hid hA3; have B7 := Lib.hid hn3; have hsl3 := hsl A3 cap3 hc3; clear h7 hA3 hn3)
            | (go_at_call 19; (with_reducible refine (HSM.out A3 cap3 _ (HTK2.out A3 _ P7.out) N7.out.rest.1).mono ?_); rintro e w8 ⟨rfl, b8⟩; have N8 := Lib.hid ((N6.out.took N7.out P7.out B7.out).on b8); clear b8))
          go_roundw
          case rel => exact ⟨k + 1, s', A3, cap3, by omega, by omega, by go_num, rfl, HG'.out, N8.out⟩
          case measure => simp [intOf]; omega
    · have hB := hN.below
      by_cases hl : k < n
      · have hl2 : 60 ≤ k := by omega
        go_wp2
        go_ret
        exact ⟨rfl, hB⟩
      · go_wp2
        go_ret
        exact ⟨rfl, hB⟩
end Go.Proofs.Ytlboeaapmfpipaa
