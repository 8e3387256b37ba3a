/-
  A link's frames. Conditions: numbers are as the program's types allow.
-/
import Derived.Test.YtbmlenffcmmkbaaLnkD
import Derived.Test.YtbmlenffcmmkbaaFr
import Derived.StillTailTactics
import Derived.Deep.RegionHeld3
import Derived.Laws.ResultCell
namespace Ros
open Go Go.RowKit
def Lk.had (s : Lk) : Nat := (s.waits + 4294967295) % 4294967296
def lframe (s : Lk) (kind : Int) (life seq : Nat) (d : ByteArray) : Fr := ⟨s.wire, kind, s.self, s.peer, life, seq, s.had, 0, d⟩
end Ros
namespace Go.Proofs.Ytbmlenffcmmkbaa
open Go.RowKit Go.Shelf Ros Go.Maps
attribute [local go_sem] Oper.semAt_some
theorem results_cellF {P : Program} {fn : Func} {p : Tmp} {ty : TypeId} (h : fn.results = #[.cell p ty]) (tmps : Array Value) (w : World) :
    (results fn tmps).run P w = ((asAddr (tmps.getD p undef)).run P w).andThen fun a w₁ => (loadVar ty a).run P w₁ := by
  simp only [results, h]
  simp [Sem.run_bind, Result.andThen]
theorem lk_cells {w : World} {S : Nat → Prop} {g : Nat} {s : Lk} (h : LkA w S g s) :
    w.cell? ⟨g, 0, none⟩ = some (.int .u32 (s.life : Int)) ∧ w.cell? ⟨g, 1, none⟩ = some (.int .u32 (s.first : Int)) ∧ w.cell? ⟨g, 2, none⟩ = some (.int .u32 (s.next : Int)) ∧ w.cell? ⟨g, 4, none⟩ = some (.int .u32 (s.peerLife : Int)) ∧ w.cell? ⟨g, 5, none⟩ = some (.int .u32 (s.waits : Int)) ∧
      w.cell? ⟨g, 6, none⟩ = some (.int .i64 s.self) ∧ w.cell? ⟨g, 7, none⟩ = some (.int .i64 s.peer) ∧ w.cell? ⟨g, 8, none⟩ = some (.int .i64 s.wire) ∧ w.cell? ⟨g, 9, none⟩ = some (.int .i64 s.window) ∧ (∀ j, w.frozen? ⟨g, j, none⟩ = false) ∧ g < w.heap.size := by
  obtain ⟨b, hg, _⟩ := h
  exact ⟨cell_row hg 0, cell_row hg 1, cell_row hg 2, cell_row hg 4, cell_row hg 5, cell_row hg 6, cell_row hg 7, cell_row hg 8, cell_row hg 9, obj_frozen hg, obj_lt hg⟩
theorem had_any (g n : Nat) (w : World) (hc : w.cell? ⟨g, 5, none⟩ = some (.int .u32 (n : Int))) (_hn : n < 4294967296) :
    Calls Try.prog 26 #[.pointer (some ⟨g, 4, none⟩)] w fun e w' => e = .returned (.int .u32 (((n + 4294967295) % 4294967296 : Nat) : Int)) ∧ w = w' := by
  have HW := Lib.hid (show IntKind.u32.wrap ((n : Int) - 1) = (((n + 4294967295) % 4294967296 : Nat) : Int) by simp [IntKind.wrap, IntKind.signed, IntKind.bits]; omega)
  have hw := HW.out
  go_enter Try.func26, Try.ntmps26
  go_wp2
  go_ret
  refine ⟨?_, rfl⟩
  first | rfl | (rw [← HW.out]; simp [IntKind.wrap, IntKind.signed, IntKind.bits])
set_option maxRecDepth 100000 in
set_option maxHeartbeats 2000000 in
theorem frame_any (w : World) (S : Nat → Prop) (g : Nat) (s : Lk) (h : LkA w S g s) (hw : s.waits < 4294967296) (kind : Int) (life seq : Nat) (d : ByteArray) :
    Calls Try.prog 18 #[.pointer (some ⟨g, 0, none⟩), .int .i64 kind, .int .u32 (life : Int), .int .u32 (seq : Int), .string d] w fun e w' => e = .returned (frV (lframe s kind life seq d)) ∧ Below w.heap.size w w' := by
  obtain ⟨_, _, _, _, q5, q6, q7, q8, _, _, hgl⟩ := lk_cells (h.below ((Below.refl _ w).alloc (Nat.le_refl _) (.cells #[.int .i64 0, .int .i64 0, .int .i64 0, .int .i64 0, .int .u32 0, .int .u32 0, .int .u32 0, .int .u32 0, .string ⟨#[]⟩] 37)))
  have HH := Lib.hid (fun (W' : World) (hc : W'.cell? ⟨g, 5, none⟩ = some (.int .u32 (s.waits : Int))) => had_any g s.waits W' hc hw)
  have hfr := World.alloc_heap_new w (.cells #[.int .i64 0, .int .i64 0, .int .i64 0, .int .i64 0, .int .u32 0, .int .u32 0, .int .u32 0, .int .u32 0, .string ⟨#[]⟩] 37)
  have HB := Lib.hid ((Below.refl _ w).alloc (Nat.le_refl _) (.cells #[.int .i64 0, .int .i64 0, .int .i64 0, .int .i64 0, .int .u32 0, .int .u32 0, .int .u32 0, .int .u32 0, .string ⟨#[]⟩] 37))
  unfold lframe Lk.had
  generalize (s.waits + 4294967295) % 4294967296 = hd at *
  have hgne : g < w.heap.size := h.lt g (by obtain ⟨b, _, _, _, hS⟩ := h; exact (hS g).2 (.inl rfl))
  have HFR := Lib.hid hfr
  clear hfr h
  go_enter Try.func18, Try.ntmps18
  go_wp2
  generalize w.alloc (.cells #[.int .i64 0, .int .i64 0, .int .i64 0, .int .i64 0, .int .u32 0, .int .u32 0, .int .u32 0, .int .u32 0, .string ⟨#[]⟩] 37) = W at *
  obtain ⟨c0, c1, c2, c3, c4, c5, c6, c7, c8, cf, cz⟩ := cells9 HFR.out
  have f0 := cf 0
  have f1 := cf 1
  have f2 := cf 2
  have f3 := cf 3
  have f4 := cf 4
  have f5 := cf 5
  have f6 := cf 6
  have f7 := cf 7
  have f8 := cf 8
  clear cf
  have HH1 := Lib.hid (show Calls Try.prog 26 #[.pointer (some ⟨g, 4, none⟩)] W.drew fun e w'' => e = .returned (.int .u32 (hd : Int)) ∧ w'' = W.drew from (HH.out W.drew q5).mono fun e w' ⟨h1, h2⟩ => ⟨h1, h2.symm⟩)
  have r5 : W.drew.cell? ⟨g, 5, none⟩ = some (.int .u32 (s.waits : Int)) := q5
  have r6 : W.drew.cell? ⟨g, 6, none⟩ = some (.int .i64 s.self) := q6
  have r7 : W.drew.cell? ⟨g, 7, none⟩ = some (.int .i64 s.peer) := q7
  have r8 : W.drew.cell? ⟨g, 8, none⟩ = some (.int .i64 s.wire) := q8
  have HB2 := Lib.hid (show Below w.heap.size w W.drew from HB.out.drew)
  have HFR2 := Lib.hid (show W.drew.heap[w.heap.size]? = _ from HFR.out)
  refine wp_region_still_tail 21 (by kernel_rfl) (by kernel_rfl) ?_
  simp only [List.take_succ_cons, List.take_zero, List.drop_succ_cons, List.drop_zero]
  show wpStill _ _ W.drew (fun a' => wpList _ _ _ _ a' W.drew) _ _
  generalize W.drew = W5 at *
  clear q5 q6 q7 q8 HH HFR HB c0 c1 c2 c3 c4 c5 c6 c7 c8 f0 f1 f2 f3 f4 f5 f6 f7 f8 cz
  obtain ⟨c0, c1, c2, c3, c4, c5, c6, c7, c8, cf, cz⟩ := cells9 HFR2.out
  have f0 := cf 0
  have f1 := cf 1
  have f2 := cf 2
  have f3 := cf 3
  have f4 := cf 4
  have f5 := cf 5
  have f6 := cf 6
  have f7 := cf 7
  have f8 := cf 8
  clear cf
  repeat still_step
  still_call HH1.out
  repeat still_step
  refine wpStill_nil ?_
  go_wp2
  refine bodyPost_ret (v := frV ⟨s.wire, kind, s.self, s.peer, life, seq, hd, 0, d⟩) ?_ rfl ⟨rfl, ?_⟩
  · rw [results_cellF rfl]
    go_simp
    rfl
  · repeat first | with_reducible exact HB2.out | (with_reducible refine Below.setCell ?_ (by show w.heap.size ≤ _; exact Nat.le_refl _) _)
end Go.Proofs.Ytbmlenffcmmkbaa
