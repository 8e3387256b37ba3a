/-
  The laws of link: LinkOrder. Conditions: numbers are as the program's types allow.
-/
import Derived.Test.YtbmlenffcmmkbaaLnkP
namespace Go.Proofs.Ytbmlenffcmmkbaa
open Go.RowKit Go.Shelf Ros Go.Maps
attribute [local go_sem] Oper.semAt_some
attribute [local go_sem ↓] Go.wp_at_zero Go.wp_at_succ
set_option linter.unusedVariables false
theorem open_steps {H : Type} {enc : TypeId × Value → H} {w : World} {base : Nat} {held : Bool} {A : Option Addr} {l c : Nat} {d : DataW H} {p : List MemPlace} (h : DataW.Trod enc Try.prog w base (fun _ => true) held 22 (.slice A l c) d p) :
    ∃ xs : List Sp, ArgAt w 3 A l (cellsSps xs) ∧ (∀ x ∈ xs, okSp x) ∧ xs.length = l := by
  obtain ⟨xs, h0, h1, h2, _⟩ := open_argN cellsSp okSp Try.underlying22 Try.underlying47 (by kernel_rfl) (by kernel_rfl) cellsSp_length (fun vs hvs hf => by
    match vs, hvs with
    | [v0, v1, v2], _ =>
      obtain ⟨k0, y0, t0⟩ := hf 0 _ v0 rfl rfl
      obtain ⟨k1, y1, t1⟩ := hf 1 _ v1 rfl rfl
      obtain ⟨k2, y2, t2⟩ := hf 2 _ v2 rfl rfl
      obtain ⟨n0, e0, _, w0⟩ := DataW.trod_int Try.underlying3 t0
      obtain ⟨n1, e1, _, w1⟩ := DataW.trod_int Try.underlying3 t1
      obtain ⟨s2, e2, _, w2⟩ := DataW.trod_string Try.underlying9 t2
      cases e0; cases e1; cases e2
      exact ⟨⟨n0, n1, s2⟩, rfl, rng64' w0, rng64' w1, w2⟩) (by show 0 < 3; omega) h
  exact ⟨xs, h1, h2, h0⟩
set_option maxRecDepth 100000 in
set_option maxHeartbeats 2000000 in
theorem linkOrder_walk (win : Int) (A : Option Addr) (n cap : Nat) (xs : List Sp) (w : World) (_w1 : -9223372036854775808 ≤ win) (_w2 : win ≤ 9223372036854775807) (ha : ArgAt w 3 A n (cellsSps xs) ∧ (∀ x ∈ xs, okSp x) ∧ xs.length = n) :
    Calls Try.prog 3 #[.int .i64 win, .slice A n cap] w fun e w' => e = .returned (.bool true) ∧ Below w.heap.size w w' := by
  obtain ⟨ha, hx, rfl⟩ := ha
  go_enter Try.func3, Try.ntmps3
  go_wp2_with fail
  refine (lshown_any _).mono ?_
  rintro e w1 ⟨rfl, b1⟩
  go_wp2_with fail
  by_cases hw : win < 1 ∨ 64 < win
  · refine (ended_no win A xs.length cap w1 hw).mono ?_
    rintro e w2 ⟨rfl, b2⟩
    go_wp2_with fail
    go_ret
    exact ⟨rfl, btL b1 b2⟩
  · refine (ended_yes win A cap xs w1 (by omega) (by omega) (ha.below b1) hx).mono ?_
    rintro e w2 ⟨S, g, T, h, c, As, cs, Ac, cc, Aw, cw, rfl, hI, hE⟩
    obtain ⟨i0, hi0, hz0, hz1, hz2⟩ := info_parts strL_info
    have hle := hI.le
    have hs100 := hI.sent
    have hcs : c.sent.length ≤ cs := by
      obtain ⟨_, _, e, e1, e2⟩ := hE.rs.1.form
      cases e
      exact e1
    have hsl := slice_h (P := Try.prog) Try.underlying24 hi0 As c.sent.length cs c.came.length (by omega)
    have hlt : (c.sent.take c.came.length).length = c.came.length := by rw [List.length_take]; omega
    have hA2 : ArgAt w2 1 As (c.sent.take c.came.length).length ((c.sent.take c.came.length).map Value.string) := by
      have := (ArgAt.of_row hE.rs.1).take_ hle
      rw [Nat.mul_one, ← List.map_take] at this
      rw [hlt]
      exact this
    have hS := strSame_any Ac As cc cs c.came (c.sent.take c.came.length) w2 (ArgAt.of_row hE.rc.1) hA2 (by unfold maxLen; omega) (by unfold maxLen; omega)
    rw [← hI.pre, decide_eq_true rfl] at hS
    have HS := Lib.hid hS
    have HB := Lib.hid hE.two.from_
    have e1 : decide ((c.came.length : Int) ≤ (c.sent.length : Int)) = true := by rw [decide_eq_true_iff]; omega
    clear hI hE hA2 hlt hS
    go_wp2_with (go_at_call 10; (with_reducible refine HS.out.mono ?_); rintro e w3 ⟨rfl, b3⟩)
    go_ret
    exact ⟨rfl, btL (btL b1 HB.out) b3⟩
end Go.Proofs.Ytbmlenffcmmkbaa
