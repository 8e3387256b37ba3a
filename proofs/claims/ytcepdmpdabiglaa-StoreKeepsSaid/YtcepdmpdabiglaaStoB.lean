/-
  What the functions of store compute, one by one: writes, snapshots, cuts. Conditions: at most 2^21 bytes lie there.
-/
import Derived.Test.YtcepdmpdabiglaaStoA
namespace Ros
open Go Go.RowKit
theorem below_conv (W : World) (o : Obj) : Below W.heap.size W (W.drew.alloc o) := (Below.refl _ W).drew.alloc (Nat.le_refl _) o
end Ros
namespace Go.Proofs.Ytcepdmpdabiglaa
open Go.RowKit Go.Shelf Ros
attribute [local go_sem] Oper.semAt_some

set_option maxHeartbeats 400000 in
theorem mappend_any (S : Nat → Prop) (g : Nat) (s : St) (r : ByteArray) (k : Nat) (w : World) (h : StA w S g s) (hk : k ≤ r.size) (hr : r.size ≤ 5000) (hl : s.log.length ≤ 1990000) :
    Calls Try.prog 19 #[.pointer (some ⟨g, 0, none⟩), .string r, .int .i64 (k : Int)] w fun e w' => (∃ v, e = .returned v) ∧ ∃ S', StA w' S' g { s with log := s.log ++ (bl r).take k } ∧ Turn S S' w w' := by
  have hsl := sl_h (P := Try.prog) Try.underlying9 r k hk (k : Int) rfl
  have hsz : (r.extract 0 k).size = k := by rw [size_bl, bl_extract0, List.length_take, ← size_bl]; omega
  obtain ⟨cp, ob, hcv, hob⟩ := conv_bytes (P := Try.prog) (src := 9) (dst := 44) (e := 5) Try.underlying9 Try.underlying44 Try.underlying5 (r.extract 0 k)
  rw [hsz] at hcv
  rw [bl_extract0] at hob
  have HL := Lib.hid (show Calls Try.prog 25 #[.pointer (some ⟨g, 0, none⟩), .slice (some ⟨w.heap.size, 0, none⟩) k (cp w)] (w.drew.alloc (ob w)) (fun e w' => (∃ v, e = .returned v) ∧ ∃ S', StA w' S' g { s with log := s.log ++ (bl r).take k } ∧ Turn S S' (w.drew.alloc (ob w)) w') from by
    refine lay_any S g s _ k _ _ _ (h.below (below_conv w _)) (Src.ofSlice _ Try.underlying44 _ k _ _ (by rw [cellsB_length, List.length_take, ← size_bl]; omega) (fun j u hj => ?_) (cellsB_one _)) (by omega) (by omega) (by rw [List.length_take, ← size_bl]; omega)
    obtain ⟨c, t, fz, ho, hc⟩ := hob w
    rw [ho, addr_add, Nat.zero_add]
    have e := cell_row (World.alloc_heap_new w.drew (.cells c t fz)) j
    exact e.trans (hc j u hj))
  have hT := Lib.hid (Turn.of_below (below_conv w (ob w)) h.lt)
  have hcv1 := hcv w
  clear hob h hcv
  generalize ({ s with log := s.log ++ (bl r).take k } : St) = s2 at *
  generalize r.extract 0 k = u at *
  generalize ob w = obw at *
  generalize cp w = cw at *
  go_enter Try.func19, Try.ntmps19
  go_wp2_with (go_at_call 25; refine HL.out.mono ?_; rintro e w1 ⟨⟨v, rfl⟩, S', h1, h2⟩)
  go_end0
  exact ⟨⟨_, rfl⟩, S', h1, hT.out.trans h2⟩

set_option maxHeartbeats 400000 in
theorem replace_some (g : Nat) (r : ByteArray) (k : Nat) (w : World) (hk : k < r.size) :
    Calls Try.prog 22 #[.pointer (some ⟨g, 0, none⟩), .string r, .int .i64 (k : Int)] w fun e w' => (∃ v, e = .returned v) ∧ w = w' := by
  go_enter Try.func22, Try.ntmps22
  go_wp2
  exact bodyPost_ret (results_none rfl _ _ _) rfl ⟨⟨_, rfl⟩, rfl⟩
set_option maxHeartbeats 400000 in
theorem replace_all (S : Nat → Prop) (g : Nat) (s : St) (r : ByteArray) (w : World) (h : StA w S g s) :
    Calls Try.prog 22 #[.pointer (some ⟨g, 0, none⟩), .string r, .int .i64 (r.size : Int)] w fun e w' => (∃ v, e = .returned v) ∧ ∃ S', StA w' S' g { s with log := [], snap := r } ∧ Turn S S' w w' := by
  have hlt := h.lt
  obtain ⟨v, hg, hrow, hS⟩ := h
  have hf0 := obj_frozen hg 0
  have hf1 := obj_frozen hg 1
  have hc0 : w.cell? ⟨g, 0, none⟩ = some v := cell_row hg 0
  have hc1 : w.cell? ⟨g, 1, none⟩ = some (.string s.snap) := cell_row hg 1
  have HG := Lib.hid hg
  clear hg hrow
  go_enter Try.func22, Try.ntmps22
  go_wp2
  go_end0
  refine ⟨⟨_, rfl⟩, fun k => k = g, ⟨.slice none 0 0, ?_, Row.nil _ _ _, fun k => by simp [Value.ownBlock]⟩, ?_⟩
  · have := obj_set (obj_set HG.out 1 (.string r)) 0 (.slice none 0 0)
    simpa [cellsSt] using this
  · have ht : Turn S (fun k => k = g) w w := (Turn.refl hlt).re (fun k hk => .inl ((hS k).2 (.inl hk))) (fun k hk => by rw [hk]; exact obj_lt HG.out)
    exact (ht.set_ (.inl ((hS g).2 (.inl rfl))) _).set_ (.inl ((hS g).2 (.inl rfl))) _
end Go.Proofs.Ytcepdmpdabiglaa
