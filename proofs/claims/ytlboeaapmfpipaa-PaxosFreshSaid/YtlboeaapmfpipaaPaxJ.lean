/-
  The walk of PaxosFresh. Conditions: numbers are as the program's types allow.
-/
import Derived.Test.YtlboeaapmfpipaaPaxI
namespace Go.Proofs.Ytlboeaapmfpipaa
open Go.RowKit Go.Shelf Ros
attribute [local go_sem] Oper.semAt_some
theorem fresh_bad (i : Int) (hi : -9223372036854775808 ≤ i ∧ i ≤ 9223372036854775807) (n : Nat) (hn : n < 18446744073709551616) (hb : ¬ (1 ≤ i ∧ i ≤ 10000 ∧ 1 ≤ n)) (W : World) (S : Nat → Prop) (g : Nat) (h : NdA W S g nd0 0) :
    Calls Try.prog 11 #[.pointer (some ⟨g, 0, none⟩), .int .i64 i, .int .u64 (n : Int)] W fun e w' => e = .returned (.tuple #[.agg #[.int .u64 0, .int .u64 0, .string ⟨#[]⟩], .string ⟨#[]⟩, .int .i64 2]) ∧ NdA w' S g nd0 1 ∧ Turn S S W w' := by
  have h1 := promN_any i hi n hn W S g 0 nd0 h (by omega) nd0_ok
  rw [fresh_no hb] at h1
  exact h1
theorem fresh_p (i : Int) (n : Nat) (hn : n < 18446744073709551616) (h1 : 1 ≤ i) (h2 : i ≤ 10000) (h3 : 1 ≤ n) (W : World) (S : Nat → Prop) (g : Nat) (h : NdA W S g nd0 0) :
    Calls Try.prog 11 #[.pointer (some ⟨g, 0, none⟩), .int .i64 i, .int .u64 (n : Int)] W fun e w' => (∃ R, e = .returned (.tuple #[.agg #[.int .u64 (n : Int), .int .u64 0, .string ⟨#[]⟩], .string R, .int .i64 0])) ∧ NdA w' S g (freshS i n) 1 ∧ Turn S S W w' := by
  have h4 := promN_any i (by omega) n hn W S g 0 nd0 h (by omega) nd0_ok
  rw [fresh1 h1 h2 h3] at h4
  exact h4.mono fun e w' ⟨e1, e2⟩ => ⟨⟨_, e1⟩, e2⟩
theorem freshS_ok (i : Int) (n : Nat) (hn : n < 18446744073709551616) : (freshS i n).ok := Nd.ok_upd nd0_ok ⟨hn, by show 0 < 18446744073709551616; omega, by show 0 ≤ 140737488355328; omega⟩
theorem fresh_c1 (i : Int) (n m : Nat) (hn : n < 18446744073709551616) (h1 : 1 ≤ i) (h2 : i ≤ 10000) (h3 : 1 ≤ n) (hm : m = n - 1) (W : World) (S : Nat → Prop) (g : Nat) (h : NdA W S g (freshS i n) 1) :
    Calls Try.prog 12 #[.pointer (some ⟨g, 0, none⟩), .int .i64 i, .int .u64 (m : Int), .string ⟨#[118]⟩] W fun e w' => (∃ R x, (x == 0) = false ∧ e = .returned (.tuple #[.string R, .int .i64 x])) ∧ NdA w' S g (freshS i n) 2 ∧ Turn S S W w' := by
  have h4 := castN_any i (by omega) m (by omega) ⟨#[118]⟩ (by decide) W S g 1 (freshS i n) h (by omega) (freshS_ok i n hn)
  obtain ⟨x, hx, hc⟩ := fresh2 h1 h2 h3 ⟨#[118]⟩
  rw [hm, hc] at h4
  rw [hm]
  exact h4.mono fun e w' ⟨e1, e2⟩ => ⟨⟨_, _, hx, e1⟩, e2⟩
def freshE (i : Int) (n : Nat) : Nd := { freshS i n with votes := updI (freshS i n).votes i ⟨n, n, ⟨#[119]⟩⟩ }
theorem fresh_c2 (i : Int) (n : Nat) (hn : n < 18446744073709551616) (h1 : 1 ≤ i) (h2 : i ≤ 10000) (h3 : 1 ≤ n) (W : World) (S : Nat → Prop) (g : Nat) (h : NdA W S g (freshS i n) 2) :
    Calls Try.prog 12 #[.pointer (some ⟨g, 0, none⟩), .int .i64 i, .int .u64 (n : Int), .string ⟨#[119]⟩] W fun e w' => (∃ R, e = .returned (.tuple #[.string R, .int .i64 0])) ∧ NdA w' S g (freshE i n) 3 ∧ Turn S S W w' := by
  have h4 := castN_any i (by omega) n (by omega) ⟨#[119]⟩ (by decide) W S g 2 (freshS i n) h (by omega) (freshS_ok i n hn)
  rw [fresh3 h1 h2 h3 ⟨#[119]⟩ (by decide)] at h4
  exact h4.mono fun e w' ⟨e1, e2⟩ => ⟨⟨_, e1⟩, e2⟩
theorem fresh_v (i : Int) (n : Nat) (h1 : 1 ≤ i) (h2 : i ≤ 10000) (W : World) (S : Nat → Prop) (g : Nat) (h : NdA W S g (freshE i n) 3) :
    Calls Try.prog 13 #[.pointer (some ⟨g, 0, none⟩), .int .i64 i] W fun e w' => e = .returned (.agg #[.int .u64 (n : Int), .int .u64 (n : Int), .string ⟨#[119]⟩]) ∧ Below W.heap.size W w' := by
  have h4 := vote_any i (by omega) W S g 3 (freshE i n) h
  unfold freshE at h4
  rw [fresh4] at h4
  exact h4
set_option maxRecDepth 100000 in
set_option maxHeartbeats 4000000 in
theorem paxosFresh_walk (i : Int) (n : Nat) (w : World) (hi1 : -9223372036854775808 ≤ i) (hi2 : i ≤ 9223372036854775807) (hn : n < 18446744073709551616) :
    Calls Try.prog 3 #[.int .i64 i, .int .u64 (n : Int)] w fun e w' => e = .returned (.bool true) ∧ Below w.heap.size w w' := by
  by_cases hall : 1 ≤ i ∧ i ≤ 10000 ∧ 1 ≤ n
  · obtain ⟨h1, h2, h3⟩ := hall
    obtain ⟨m, hm⟩ : ∃ m, m = n - 1 := ⟨_, rfl⟩
    have e1 : ((n : Int) - 1) = (m : Int) := by omega
    have e2 : ((n : Int) - 1) % 18446744073709551616 = (m : Int) := by omega
    have e3 : IntKind.u64.wrap ((n : Int) - 1) = (m : Int) := by rw [e1]; simp [IntKind.wrap, IntKind.signed, IntKind.bits]; omega
    have HM := Lib.hid hm
    clear hm
    go_enter Try.func3, Try.ntmps3
    go_wp2_with (first
      | (go_at_call 9; refine (showP_any _).mono ?_; rintro e w0 ⟨rfl, b0⟩; have B0 := Lib.hid b0; clear b0)
      | (go_at_call 10; refine (nnew_any _).mono ?_; rintro e w1 ⟨g, S, rfl, hg, hS, n1, b1⟩; have N1 := Lib.hid n1; have B1 := Lib.hid (bt B0.out b1); have HG := Lib.hid (fun k hk => Nat.le_trans B0.out.size (hS k hk)); clear n1 b1 hS)
      | (go_at_call 11; refine (fresh_p i n hn h1 h2 h3 _ S g N1.out).mono ?_; rintro e w2 ⟨⟨R2, rfl⟩, n2, t2⟩; have B2 := Lib.hid (Turn.below B1.out B1.out.size HG.out t2).1; have N2 := Lib.hid (n2.below ((Below.refl _ w2).alloc (Nat.le_refl _) (.cells #[.int .u64 (n : Int), .int .u64 0, .string ⟨#[]⟩] 27))); have B2' := Lib.hid (B2.out.alloc B2.out.size (.cells #[.int .u64 (n : Int), .int .u64 0, .string ⟨#[]⟩] 27)); clear n2 t2)
      | (go_at_call 12; with_reducible refine (fresh_c1 i n m hn h1 h2 h3 HM.out _ S g N2.out).mono ?_; rintro e w3 ⟨⟨R3, x3, hx3, rfl⟩, n3, t3⟩; have hx4 : ¬ x3 = 0 := (by simpa using hx3); have N3 := Lib.hid n3; have B3 := Lib.hid (Turn.below B2'.out B2'.out.size HG.out t3).1; clear n3 t3)
      | (go_at_call 12; with_reducible refine (fresh_c2 i n hn h1 h2 h3 _ S g N3.out).mono ?_; rintro e w4 ⟨⟨R4, rfl⟩, n4, t4⟩; have N4 := Lib.hid n4; have B4 := Lib.hid (Turn.below B3.out B3.out.size HG.out t4).1; clear n4 t4)
      | (go_at_call 13; refine (fresh_v i n h1 h2 _ S g N4.out).mono ?_; rintro e w5 ⟨rfl, b5⟩; have B5 := Lib.hid (bt B4.out b5); clear b5))
    go_ret
    exact ⟨congrArg (fun b => Ending.returned (.bool b)) (show (x3 != 0) = true by simpa using hx4), B5.out⟩
  · have HB := Lib.hid hall
    by_cases h1 : i < 1
    · clear hall
      go_enter Try.func3, Try.ntmps3
      go_wp2_with (first
        | (go_at_call 9; refine (showP_any _).mono ?_; rintro e w0 ⟨rfl, b0⟩; have B0 := Lib.hid b0; clear b0)
        | (go_at_call 10; refine (nnew_any _).mono ?_; rintro e w1 ⟨g, S, rfl, hg, hS, n1, b1⟩; have N1 := Lib.hid n1; have B1 := Lib.hid (bt B0.out b1); have HG := Lib.hid (fun k hk => Nat.le_trans B0.out.size (hS k hk)); clear n1 b1 hS)
        | (go_at_call 11; refine (fresh_bad i ⟨hi1, hi2⟩ n hn HB.out _ S g N1.out).mono ?_; rintro e w2 ⟨rfl, n2, t2⟩; have B2 := Lib.hid (Turn.below B1.out B1.out.size HG.out t2).1; clear n2 t2))
      go_ret
      exact ⟨rfl, B2.out.alloc B2.out.size _⟩
    · by_cases h2 : 10000 < i
      · clear hall
        go_enter Try.func3, Try.ntmps3
        go_wp2_with (first
          | (go_at_call 9; refine (showP_any _).mono ?_; rintro e w0 ⟨rfl, b0⟩; have B0 := Lib.hid b0; clear b0)
          | (go_at_call 10; refine (nnew_any _).mono ?_; rintro e w1 ⟨g, S, rfl, hg, hS, n1, b1⟩; have N1 := Lib.hid n1; have B1 := Lib.hid (bt B0.out b1); have HG := Lib.hid (fun k hk => Nat.le_trans B0.out.size (hS k hk)); clear n1 b1 hS)
          | (go_at_call 11; refine (fresh_bad i ⟨hi1, hi2⟩ n hn HB.out _ S g N1.out).mono ?_; rintro e w2 ⟨rfl, n2, t2⟩; have B2 := Lib.hid (Turn.below B1.out B1.out.size HG.out t2).1; clear n2 t2))
        go_ret
        exact ⟨rfl, B2.out.alloc B2.out.size _⟩
      · have h3 : (n : Int) < 1 := by omega
        clear hall
        go_enter Try.func3, Try.ntmps3
        go_wp2_with (first
          | (go_at_call 9; refine (showP_any _).mono ?_; rintro e w0 ⟨rfl, b0⟩; have B0 := Lib.hid b0; clear b0)
          | (go_at_call 10; refine (nnew_any _).mono ?_; rintro e w1 ⟨g, S, rfl, hg, hS, n1, b1⟩; have N1 := Lib.hid n1; have B1 := Lib.hid (bt B0.out b1); have HG := Lib.hid (fun k hk => Nat.le_trans B0.out.size (hS k hk)); clear n1 b1 hS)
          | (go_at_call 11; refine (fresh_bad i ⟨hi1, hi2⟩ n hn HB.out _ S g N1.out).mono ?_; rintro e w2 ⟨rfl, n2, t2⟩; have B2 := Lib.hid (Turn.below B1.out B1.out.size HG.out t2).1; clear n2 t2))
        go_ret
        exact ⟨rfl, B2.out.alloc B2.out.size _⟩
end Go.Proofs.Ytlboeaapmfpipaa
