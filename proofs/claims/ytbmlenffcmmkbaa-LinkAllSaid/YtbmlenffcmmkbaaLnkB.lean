/-
  A new link. Conditions: numbers are as the program's types allow.
-/
import Derived.Test.YtbmlenffcmmkbaaLnkA
namespace Go.Proofs.Ytbmlenffcmmkbaa
open Go.RowKit Go.Shelf Ros Go.Maps
attribute [local go_sem] Oper.semAt_some
theorem btl {a b c : World} (h : Below a.heap.size a b) (k : Below b.heap.size b c) : Below a.heap.size a c := h.trans (k.mono h.size)
set_option maxHeartbeats 2000000 in
theorem lnew_yes (self peer wire window : Int) (life : Nat) (w : World) (h1 : nodeOk self) (h2 : nodeOk peer) (h3 : self ≠ peer) (h4 : isW wire) (h5 : 1 ≤ window ∧ window ≤ 64) (h6 : 1 ≤ life) :
    Calls Try.prog 13 #[.int .i64 self, .int .i64 peer, .int .i64 wire, .int .i64 window, .int .u32 (life : Int)] w fun e w' => ∃ g S, e = .returned (.tuple #[.pointer (some ⟨g, 0, none⟩), .int .i64 0]) ∧ (∀ k, S k → w.heap.size ≤ k) ∧ LkA w' S g ⟨life, 1, [], 0, 1, self, peer, wire, window⟩ ∧ Below w.heap.size w w' := by
  have hmm := @run_makeMap Try.prog
  have hwr : -9223372036854775808 ≤ wire ∧ wire ≤ 9223372036854775807 := by rcases h4 with rfl | rfl <;> omega
  have hE : agreeE wire wire = 0 := if_pos ⟨h4, h4⟩
  have HI := Lib.hid (fun (W : World) (h : W.heap[w.heap.size]? = some (.cells #[.int .i64 self, .int .i64 peer] 3 (0, 0))) => isNode_yes w.heap.size self peer W h h1 h2)
  have HN := Lib.hid (World.alloc_heap_new w (.cells #[.int .i64 self, .int .i64 peer] 3))
  have HG := Lib.hid (fun W => agree_any wire wire W hwr hwr)
  rw [hE] at HG
  have hq : (self == peer) = false := by rw [beq_eq_false_iff_ne]; exact h3
  have d1 : decide (window < 1) = false := by simp; omega
  have d2 : decide (window > 64) = false := by simp; omega
  have d3 : decide ((life : Int) < 1) = false := by simp; omega
  generalize agreeN wire wire = an at *
  clear hE h1 h2 h3 h4 h5 h6 hwr
  go_enter Try.func13, Try.ntmps13
  go_wp2_with (first
    | (go_at_call 22; (with_reducible refine (HI.out _ HN.out).mono ?_); rintro e w1 ⟨rfl, rfl⟩)
    | (go_at_call 23; (with_reducible refine (HG.out _).mono ?_); rintro e w2 ⟨rfl, b2⟩; have B2 := Lib.hid (btl ((Below.refl _ w).alloc (Nat.le_refl _) _) b2); clear b2))
  go_ret2
  have hM := Mp.made (w2.alloc (.cells #[.int .u32 (life : Int), .int .u32 1, .int .u32 1, .map (some (w2.heap.size + 1)), .int .u32 0, .int .u32 1, .int .i64 self, .int .i64 peer, .int .i64 wire, .int .i64 window] 59)) Try.prog 35 ekW
  rw [World.size_alloc] at hM
  have hz := B2.out.size
  refine ⟨w2.heap.size, fun k => k = w2.heap.size ∨ k = w2.heap.size + 1, rfl, fun k hk => by omega, ⟨w2.heap.size + 1, ?_, hM.congr (fun x => ?_) rfl, by omega, fun k => Iff.rfl⟩, ?_⟩
  · exact obj_alloc (World.alloc_heap_new w2 _) _
  · unfold outsV
    split <;> rfl
  · exact (B2.out.alloc hz _).alloc (by simp; omega) _
set_option maxHeartbeats 2000000 in
theorem lnew_win (self peer wire window : Int) (life : Nat) (w : World) (h1 : nodeOk self) (h2 : nodeOk peer) (h3 : self ≠ peer) (h5 : window < 1 ∨ 64 < window) :
    Calls Try.prog 13 #[.int .i64 self, .int .i64 peer, .int .i64 wire, .int .i64 window, .int .u32 (life : Int)] w fun e w' => e = .returned (.tuple #[.pointer none, .int .i64 2]) ∧ Below w.heap.size w w' := by
  have HI := Lib.hid (fun (W : World) (h : W.heap[w.heap.size]? = some (.cells #[.int .i64 self, .int .i64 peer] 3 (0, 0))) => isNode_yes w.heap.size self peer W h h1 h2)
  have HN := Lib.hid (World.alloc_heap_new w (.cells #[.int .i64 self, .int .i64 peer] 3))
  have hq : (self == peer) = false := by rw [beq_eq_false_iff_ne]; exact h3
  clear h1 h2 h3
  rcases h5 with h5 | h5
  · have d1 : decide (window < 1) = true := by simp; omega
    go_enter Try.func13, Try.ntmps13
    go_wp2_with (go_at_call 22; (with_reducible refine (HI.out _ HN.out).mono ?_); rintro e w1 ⟨rfl, rfl⟩)
    go_ret2
    exact ⟨rfl, (Below.refl _ w).alloc (Nat.le_refl _) _⟩
  · have d1 : decide (window < 1) = false := by simp; omega
    have d2 : decide (window > 64) = true := by simp; omega
    go_enter Try.func13, Try.ntmps13
    go_wp2_with (go_at_call 22; (with_reducible refine (HI.out _ HN.out).mono ?_); rintro e w1 ⟨rfl, rfl⟩)
    go_ret2
    exact ⟨rfl, (Below.refl _ w).alloc (Nat.le_refl _) _⟩
end Go.Proofs.Ytbmlenffcmmkbaa
