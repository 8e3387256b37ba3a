/-
  What a node that is no node says; the walk of PaxosNone. Conditions: the arguments' own.
-/
import Derived.Test.YtlboeaapmfpipaaPaxI
import Derived.Test.YtlboeaapmfpipaaOpen
namespace Ros
open Go Go.RowKit
structure Pa where
  d : Int
  i : Int
  b : Nat
  s : ByteArray
def Pa.ok (x : Pa) : Prop := (-9223372036854775808 ≤ x.d ∧ x.d ≤ 9223372036854775807) ∧ (-9223372036854775808 ≤ x.i ∧ x.i ≤ 9223372036854775807) ∧ x.b < 18446744073709551616 ∧ x.s.size ≤ maxLen
theorem cells4 {w : World} {g : Nat} {a b c d : Value} {t : TypeId} (h : w.heap[g]? = some (.cells #[a, b, c, d] t (0, 0))) :
    w.cell? ⟨g, 0, none⟩ = some a ∧ w.cell? ⟨g, 1, none⟩ = some b ∧ w.cell? ⟨g, 2, none⟩ = some c ∧ w.cell? ⟨g, 3, none⟩ = some d :=
  ⟨cell_row h 0, cell_row h 1, cell_row h 2, cell_row h 3⟩
end Ros
namespace Go.Proofs.Ytlboeaapmfpipaa
open Go.RowKit Go.Shelf Ros
attribute [local go_sem] Oper.semAt_some
section
open Go.Joins Go.ChangeShapes Go.WideShapes Go.Deep
variable {H : Type} {enc : TypeId × Value → H} {w : World} {base : Nat} {spare : Nat → Bool} {held : Bool}
theorem open_pact {r : Reach} {b0 : Nat} {v : Value} {d : DataW H} {p : List MemPlace} (hv : Value.okWide Try.prog w r b0 45 v) (h : DataW.Trod enc Try.prog w base spare held 45 v d p) :
    ∃ x : Pa, v = .agg #[.int .i64 x.d, .int .i64 x.i, .int .u64 (x.b : Int), .string x.s] ∧ x.ok := by
  obtain ⟨v0, v1, v2, v3, y0, y1, y2, y3, n, rfl, _, _, h0, h1, h2, h3⟩ := open_agg4 Try.underlying45 (by kernel_rfl) (by kernel_rfl) hv h
  obtain ⟨n0, e0, _, w0⟩ := DataW.trod_int Try.underlying3 h0
  obtain ⟨n1, e1, _, w1⟩ := DataW.trod_int Try.underlying3 h1
  obtain ⟨n2, e2, _, w2⟩ := DataW.trod_int Try.underlying22 h2
  obtain ⟨s3, e3, _, w3⟩ := DataW.trod_string Try.underlying9 h3
  obtain ⟨m2, rfl, b2⟩ := rngu64 w2
  cases e0; cases e1; cases e2; cases e3
  exact ⟨⟨n0, n1, m2, s3⟩, rfl, rng64' w0, rng64' w1, b2, w3⟩
end
theorem decidedN_nil (i : Int) (w : World) :
    Calls Try.prog 20 #[.pointer none, .int .i64 i] w fun e w' => e = .returned (.tuple #[.string ⟨#[]⟩, .bool false]) ∧ Below w.heap.size w w' := by
  go_enter Try.func20, Try.ntmps20
  go_wp2
  go_ret2
  exact ⟨rfl, Below.refl _ _⟩
theorem replayN_nil (s : ByteArray) (w : World) :
    Calls Try.prog 18 #[.pointer none, .string s] w fun e w' => e = .returned (.int .i64 1) ∧ Below w.heap.size w w' := by
  go_enter Try.func18, Try.ntmps18
  go_wp2
  go_ret
  exact ⟨rfl, Below.refl _ _⟩
theorem compactN_nil (i : Int) (w : World) :
    Calls Try.prog 15 #[.pointer none, .int .i64 i] w fun e w' => e = .returned (.int .i64 1) ∧ Below w.heap.size w w' := by
  refine calls_marksP Try.func15 rfl ?_
  simp only [Try.ntmps15, List.size_toArray, List.length_cons, List.length_nil, Nat.reduceAdd, Nat.reduceSub, Array.replicate_succ, Array.replicate_zero, List.push_toArray, List.append_toArray, List.nil_append, List.cons_append]
  go_wp2
  refine wp_scope_straight ?_
  go_wp2
  rw [Exit.noGoto_ret]
  exact leaves_plain1 rfl ⟨rfl, ((Below.refl _ w).alloc (Nat.le_refl _) _).alloc (by simp) _⟩
set_option maxRecDepth 100000 in
set_option maxHeartbeats 4000000 in
theorem paxosNone_walk (x : Pa) (w : World) :
    Calls Try.prog 8 #[.agg #[.int .i64 x.d, .int .i64 x.i, .int .u64 (x.b : Int), .string x.s]] w fun e w' => e = .returned (.bool true) ∧ Below w.heap.size w w' := by
  obtain ⟨xd, xi, xb, xs⟩ := x
  dsimp only
  have O0 := Lib.hid (World.alloc_heap_new w (.cells #[.int .i64 xd, .int .i64 xi, .int .u64 (xb : Int), .string xs] 45))
  go_enter Try.func8, Try.ntmps8
  go_wp2_with (first
    | (go_at_call 9; refine (showP_any _).mono ?_; rintro e w1 ⟨rfl, b1⟩; have B1 := Lib.hid (below1 b1); have O1 := Lib.hid (obj_below O0.out b1 (obj_lt O0.out)); obtain ⟨a0, a1, a2, a3⟩ := cells4 O1.out; have Z1 := obj_lt O1.out; clear b1)
    | (go_at_call 11; refine (promN_nil _ _ _).mono ?_; rintro e w2 ⟨rfl, b2⟩; have B2 := Lib.hid (bt B1.out b2); have O2 := Lib.hid (obj_below O1.out b2 (obj_lt O1.out)); obtain ⟨c0, c1, c2, c3⟩ := cells4 O2.out; have Z2 := obj_lt O2.out; clear b2 a0 a1 a2 a3; dsimp only [encVt, vt0])
    | (go_at_call 12; refine (castN_nil _ _ _ _).mono ?_; rintro e w3 ⟨rfl, b3⟩; have B3 := Lib.hid (bt (B2.out.alloc B2.out.size _) b3); have O3 := Lib.hid (obj_below (obj_alloc O2.out _) b3 (by have := obj_lt O2.out; simp; omega)); obtain ⟨d0, d1, d2, d3⟩ := cells4 O3.out; clear b3 c0 c1 c2 c3)
    | (go_at_call 14; refine (learn_nil _ _ _).mono ?_; rintro e w4 ⟨rfl, b4⟩; have B4 := Lib.hid (bt B3.out b4); have O4 := Lib.hid (obj_below O3.out b4 (obj_lt O3.out)); obtain ⟨f0, f1, f2, f3⟩ := cells4 O4.out; clear b4 d0 d1 d2 d3)
    | (go_at_call 20; refine (decidedN_nil _ _).mono ?_; rintro e w5 ⟨rfl, b5⟩; have B5 := Lib.hid (bt B4.out b5); have O5 := Lib.hid (obj_below O4.out b5 (obj_lt O4.out)); obtain ⟨g0, g1, g2, g3⟩ := cells4 O5.out; clear b5 f0 f1 f2 f3)
    | (go_at_call 13; refine (vote_nil _ _).mono ?_; rintro e w6 ⟨rfl, b6⟩; have B6 := Lib.hid (bt B5.out b6); have O6 := Lib.hid (obj_below O5.out b6 (obj_lt O5.out)); obtain ⟨h0, h1, h2, h3⟩ := cells4 O6.out; clear b6 g0 g1 g2 g3; dsimp only [encVt, vt0])
    | (go_at_call 16; refine (pref_nil _).mono ?_; rintro e w7 ⟨rfl, b7⟩; have B7 := Lib.hid (bt B6.out b7); have O7 := Lib.hid (obj_below O6.out b7 (obj_lt O6.out)); obtain ⟨i0, i1, i2, i3⟩ := cells4 O7.out; clear b7 h0 h1 h2 h3)
    | (go_at_call 15; refine (compactN_nil _ _).mono ?_; rintro e w8 ⟨rfl, b8⟩; have B8 := Lib.hid (bt B7.out b8); have O8 := Lib.hid (obj_below O7.out b8 (obj_lt O7.out)); obtain ⟨j0, j1, j2, j3⟩ := cells4 O8.out; clear b8 i0 i1 i2 i3)
    | (go_at_call 18; refine (replayN_nil _ _).mono ?_; rintro e w9 ⟨rfl, b9⟩; have B9 := Lib.hid (bt B8.out b9); clear b9))
  go_ret
  exact ⟨rfl, B9.out⟩
end Go.Proofs.Ytlboeaapmfpipaa
