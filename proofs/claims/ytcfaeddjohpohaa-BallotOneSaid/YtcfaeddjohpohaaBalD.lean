/-
  Whether all acceptors are right; what may be proposed. Conditions: lists are at most as long as Go allows.
-/
import Derived.Test.YtcfaeddjohpohaaBalC
namespace Ros
open Go Go.RowKit
theorem all_snoc {α : Type} (p : α → Bool) (l : List α) (x : α) : (l ++ [x]).all p = (l.all p && p x) := by simp
theorem all_pre {α : Type} (p : α → Bool) {l pre post : List α} {x : α} (h : l = pre ++ x :: post) (hx : p x = false) : l.all p = false := by rw [h]; simp [hx]
end Ros
namespace Go.Proofs.Ytcfaeddjohpohaa
open Go.RowKit Go.Shelf Ros
attribute [local go_sem] Oper.semAt_some

set_option maxRecDepth 100000 in
set_option maxHeartbeats 1000000 in
theorem areRight_any (A : Option Addr) (c : Nat) (l : List Vt) (w : World) (ha : ArgAt w 3 A l.length (cellsVs l)) (hl : l.length ≤ 9223372036854775807) (hok : ∀ x ∈ l, x.ok) :
    Calls Try.prog 26 #[.slice A l.length c] w fun e w' => e = .returned (.bool (l.all rightB)) ∧ Below w.heap.size w w' := by
  have HA := Lib.hid ha
  clear ha
  refine calls_marksP Try.func26 rfl ?_
  simp only [Try.ntmps26, List.size_toArray, List.length_cons, List.length_nil, Nat.reduceAdd, Nat.reduceSub, Array.replicate_succ, Array.replicate_zero, List.push_toArray, List.append_toArray, List.nil_append, List.cons_append]
  go_wp2
  go_step3
  go_wp2
  go_step3
  go_wp2_with (go_at_call 27; refine (values_any _ _ _ _).mono ?_; rintro e w' ⟨rfl, rfl⟩)
  refine range_lawP (gf := 28) (lb := #[.pointer (some ⟨w.heap.size + 1, 0, none⟩)]) rfl (enters_of Try.func28 (by kernel_rfl) rfl) (values1_iter (w.heap.size + 1) A c l hl) (fun _ => rfl)
    (fun pre W => Boxed W w.heap.size 4 (.bool true) ∧ Boxed W (w.heap.size + 1) 36 (.slice A l.length c) ∧ Below w.heap.size w W ∧ pre.all rightB = true)
    (fun e pre W => e = .exit 0 ∧ Boxed W w.heap.size 4 (.bool (l.all rightB)) ∧ Below w.heap.size w W)
    ((own_box _ _ _ _).and ((own_box _ _ _ _).and ((own_below (Nat.le_refl _) (by simp; omega)).and (own_pure _ _))))
    (fun _ => (own_pure _ _).and ((own_box _ _ _ _).and (own_below (Nat.le_refl _) (by simp; omega)))) (fun _ _ h => ⟨h.2.1.cell, HA.out.below h.2.2.1⟩) ?h0 ?hround ?hdone ?hstop
  case h0 =>
    refine ⟨(Boxed.new _ _ _).alloc _, ?_, ((Below.refl _ w).alloc (Nat.le_refl _) _).alloc (by simp) _, rfl⟩
    have h := Boxed.new (w.alloc (.cells #[.bool true] 4)) 36 (.slice A l.length c)
    rw [World.size_alloc] at h
    exact h
  case hround =>
    rintro L pre x post W hxs hlL hlW ⟨hb1, hb2, hB, hN⟩
    have hx : x.ok := hok x (by rw [hxs]; simp)
    dsimp only [encV]
    have HN := Lib.hid hN
    have HX := Lib.hid hxs
    clear hN hxs
    gi_wp2
    refine ⟨keeps_below ((Below.refl _ W).alloc (Nat.le_refl _) _), ⟨hb1.alloc _, hb2.alloc _, hB.alloc (by have := hB.size; omega) _, HN.out⟩, ?_⟩
    clear hb1 hb2 hB
    rintro W2 hg hsz ⟨hb1, hb2, hB, _⟩
    have hbn := (hg.block W.heap.size (by simp) (by simp; omega)).trans (World.alloc_heap_new W _)
    obtain ⟨a0, a1, a2, f0, f1, f2, z0⟩ := cells3 hbn
    have HSZ := Lib.hid hsz
    clear hsz
    cases hr : rightB x
    · have HR := Lib.hid (fun w => right_any x w hx)
      rw [hr] at HR
      have HE := Lib.hid (all_pre rightB HX.out hr)
      clear hr
      gi_wp2_with (gi_at_call 16; refine (in_round L _ (HR.out _)).mono ?_; rintro e w1 ⟨rfl, hw1⟩; have hb1' := box_below hb1 hw1 (obj_lt hb1); have hca := hb1'.cell; have hfa := hb1'.frozen)
      refine ⟨keeps_below hw1 |>.trans (keeps_set _ _ _), rfl, ?_, (hB.trans (hw1.mono hB.size)).setCell (p := ⟨w.heap.size, 0, none⟩) (Nat.le_refl _) _⟩
      rw [HE.out]
      exact hb1'.set _
    · have HR := Lib.hid (fun w => right_any x w hx)
      rw [hr] at HR
      have HE := Lib.hid (show (pre ++ [x]).all rightB = true by rw [all_snoc, HN.out, hr]; rfl)
      clear hr
      gi_wp2_with (gi_at_call 16; refine (in_round L _ (HR.out _)).mono ?_; rintro e w1 ⟨rfl, hw1⟩)
      exact ⟨keeps_below hw1, box_below hb1 hw1 (obj_lt hb1), box_below hb2 hw1 (obj_lt hb2), hB.trans (hw1.mono hB.size), HE.out⟩
  case hdone =>
    rintro D W hD ⟨hb1, hb2, hB, hN⟩ hK
    have hcs := hb1.cell
    go_wp2
    rw [Exit.noGoto_ret]
    refine leaves_mark1 rfl hK ?_
    exact ⟨by rw [hN]; rfl, below_put hB (by simp at hD; omega) (Nat.le_refl _)⟩
  case hstop =>
    rintro D c pre W hD hp ⟨rfl, hb2, hB⟩ hK
    have hcs := hb2.cell
    go_wp2
    rw [Exit.noGoto_ret]
    refine leaves_mark1 rfl hK ?_
    exact ⟨rfl, below_put hB (by simp at hD; omega) (Nat.le_refl _)⟩
end Go.Proofs.Ytcfaeddjohpohaa
