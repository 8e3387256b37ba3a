/-
  What may be proposed. Conditions: lists are at most as long as Go allows.
-/
import Derived.Test.YtcfaeddjohpohaaBalD
namespace Ros
open Go Go.RowKit
def cv (x : Vt) : Array Value := #[.int .u64 (x.p : Int), .int .u64 (x.b : Int), .string x.s]
theorem cv_set (x y : Vt) : (((cv x).setIfInBounds 0 (.int .u64 (y.p : Int))).setIfInBounds 1 (.int .u64 (y.b : Int))).setIfInBounds 2 (.string y.s) = cv y := by simp [cv]
theorem box_far {W : World} {B g : Nat} {t : TypeId} {v : Value} (h : Boxed W B t v) (hne : B ≠ g) (j : Nat) (u : Value) : Boxed (W.setCell ⟨g, j, none⟩ u) B t v := obj_far (p := ⟨g, j, none⟩) h hne u
theorem group_iff (n : Int) (k : Nat) : groupB n k = true ↔ 1 ≤ n ∧ n ≤ 16 ∧ (k : Int) ≤ n ∧ n < 2 * (k : Int) := by simp [groupB]
theorem mprop_group {n : Int} {l : List Vt} {own : ByteArray} (h : ¬ (1 ≤ n ∧ n ≤ 16 ∧ (l.length : Int) ≤ n ∧ n < 2 * (l.length : Int))) : mprop n l own = (⟨#[]⟩, 81) := by
  unfold mprop; rw [if_neg (fun e => h ((group_iff _ _).1 e))]
theorem mprop_bad {n : Int} {l : List Vt} {own : ByteArray} (h : 1 ≤ n ∧ n ≤ 16 ∧ (l.length : Int) ≤ n ∧ n < 2 * (l.length : Int)) (h2 : ¬ (l.all rightB = true ∧ own.size ≤ 4000)) : mprop n l own = (⟨#[]⟩, 2) := by
  unfold mprop; rw [if_pos ((group_iff _ _).2 h), if_neg (by simpa using h2)]
theorem mprop_yes {n : Int} {l : List Vt} {own : ByteArray} (h : 1 ≤ n ∧ n ≤ 16 ∧ (l.length : Int) ≤ n ∧ n < 2 * (l.length : Int)) (h2 : l.all rightB = true ∧ own.size ≤ 4000) : mprop n l own = ((bestV ⟨0, 0, own⟩ l).s, 0) := by
  unfold mprop; rw [if_pos ((group_iff _ _).2 h), if_pos (by simpa using h2)]
theorem bestV_ok {a : Vt} {l : List Vt} (ha : a.ok) (hl : ∀ x ∈ l, x.ok) : (bestV a l).ok := by
  unfold bestV
  induction l generalizing a with
  | nil => exact ha
  | cons x t ih =>
    rw [List.foldl_cons]
    refine ih ?_ fun y hy => hl y (List.mem_cons_of_mem _ hy)
    split
    · exact hl x List.mem_cons_self
    · exact ha
end Ros
namespace Go.Proofs.Ytcfaeddjohpohaa
open Go.RowKit Go.Shelf Ros
attribute [local go_sem] Oper.semAt_some
set_option linter.unusedVariables false

set_option maxRecDepth 100000 in
set_option maxHeartbeats 1000000 in
theorem proposal_no (n : Int) (A : Option Addr) (c : Nat) (l : List Vt) (own : ByteArray) (w : World) (ha : ArgAt w 3 A l.length (cellsVs l)) (hl : l.length ≤ 4611686018427387903) (hok : ∀ x ∈ l, x.ok) (ho : own.size ≤ 140737488355328)
    (hn1 : -9223372036854775808 ≤ n) (hn2 : n ≤ 9223372036854775807) (hg : ¬ (1 ≤ n ∧ n ≤ 16 ∧ (l.length : Int) ≤ n ∧ n < 2 * (l.length : Int))) :
    Calls Try.prog 22 #[.int .i64 n, .slice A l.length c, .string own] w fun e w' => e = .returned (.tuple #[.string ⟨#[]⟩, .int .i64 81]) ∧ Below w.heap.size w w' := by
  by_cases h1 : n < 1
  · refine calls_marksP Try.func22 rfl ?_
    simp only [Try.ntmps22, List.size_toArray, List.length_cons, List.length_nil, Nat.reduceAdd, Nat.reduceSub, Array.replicate_succ, Array.replicate_zero, List.push_toArray, List.append_toArray, List.nil_append, List.cons_append]
    go_wp2
    exact leaves_plain2 rfl ⟨rfl, Below.refl _ _⟩
  by_cases h2 : 16 < n
  · refine calls_marksP Try.func22 rfl ?_
    simp only [Try.ntmps22, List.size_toArray, List.length_cons, List.length_nil, Nat.reduceAdd, Nat.reduceSub, Array.replicate_succ, Array.replicate_zero, List.push_toArray, List.append_toArray, List.nil_append, List.cons_append]
    go_wp2
    exact leaves_plain2 rfl ⟨rfl, Below.refl _ _⟩
  by_cases h3 : n < (l.length : Int)
  · refine calls_marksP Try.func22 rfl ?_
    simp only [Try.ntmps22, List.size_toArray, List.length_cons, List.length_nil, Nat.reduceAdd, Nat.reduceSub, Array.replicate_succ, Array.replicate_zero, List.push_toArray, List.append_toArray, List.nil_append, List.cons_append]
    go_wp2
    exact leaves_plain2 rfl ⟨rfl, Below.refl _ _⟩
  by_cases h4 : 2 * (l.length : Int) ≤ n
  · refine calls_marksP Try.func22 rfl ?_
    simp only [Try.ntmps22, List.size_toArray, List.length_cons, List.length_nil, Nat.reduceAdd, Nat.reduceSub, Array.replicate_succ, Array.replicate_zero, List.push_toArray, List.append_toArray, List.nil_append, List.cons_append]
    go_wp2
    exact leaves_plain2 rfl ⟨rfl, Below.refl _ _⟩
  exact absurd (by omega) hg

set_option maxRecDepth 100000 in
set_option maxHeartbeats 1000000 in
theorem proposal_bad1 (n : Int) (A : Option Addr) (c : Nat) (l : List Vt) (own : ByteArray) (w : World) (ha : ArgAt w 3 A l.length (cellsVs l)) (hl : l.length ≤ 4611686018427387903) (hok : ∀ x ∈ l, x.ok) (ho : own.size ≤ 140737488355328)
    (hn1 : -9223372036854775808 ≤ n) (hn2 : n ≤ 9223372036854775807) (h1 : ¬ n < 1) (h2 : ¬ 16 < n) (h3 : ¬ n < (l.length : Int)) (h4 : ¬ 2 * (l.length : Int) ≤ n) (hr : l.all rightB = false) :
    Calls Try.prog 22 #[.int .i64 n, .slice A l.length c, .string own] w fun e w' => e = .returned (.tuple #[.string ⟨#[]⟩, .int .i64 2]) ∧ Below w.heap.size w w' := by
  have HA := Lib.hid ha
  clear ha
  have HR := Lib.hid (fun w1 h => areRight_any A c l w1 h (by omega) hok)
  rw [hr] at HR
  clear hr
  refine calls_marksP Try.func22 rfl ?_
  simp only [Try.ntmps22, List.size_toArray, List.length_cons, List.length_nil, Nat.reduceAdd, Nat.reduceSub, Array.replicate_succ, Array.replicate_zero, List.push_toArray, List.append_toArray, List.nil_append, List.cons_append]
  go_wp2_with (go_at_call 26; refine (HR.out _ HA.out).mono ?_; rintro e w1 ⟨rfl, hb1⟩)
  exact leaves_plain2 rfl ⟨rfl, hb1⟩

set_option maxRecDepth 100000 in
set_option maxHeartbeats 1000000 in
theorem proposal_yes (n : Int) (A : Option Addr) (c : Nat) (l : List Vt) (own : ByteArray) (w : World) (ha : ArgAt w 3 A l.length (cellsVs l)) (hl : l.length ≤ 4611686018427387903) (hok : ∀ x ∈ l, x.ok) (ho : own.size ≤ 140737488355328)
    (hn1 : -9223372036854775808 ≤ n) (hn2 : n ≤ 9223372036854775807) (h1 : ¬ n < 1) (h2 : ¬ 16 < n) (h3 : ¬ n < (l.length : Int)) (h4 : ¬ 2 * (l.length : Int) ≤ n) (hr : l.all rightB = true) (h5 : own.size ≤ 4000) :
    Calls Try.prog 22 #[.int .i64 n, .slice A l.length c, .string own] w fun e w' => e = .returned (.tuple #[.string (bestV ⟨0, 0, own⟩ l).s, .int .i64 0]) ∧ Below w.heap.size w w' := by
  have HA := Lib.hid ha
  clear ha
  have HR := Lib.hid (fun w1 h => areRight_any A c l w1 h (by omega) hok)
  rw [hr] at HR
  have h5' : decide (own.size ≤ 4000) = true := by simp [h5]
  clear hr
  refine calls_marksP Try.func22 rfl ?_
  simp only [Try.ntmps22, List.size_toArray, List.length_cons, List.length_nil, Nat.reduceAdd, Nat.reduceSub, Array.replicate_succ, Array.replicate_zero, List.push_toArray, List.append_toArray, List.nil_append, List.cons_append]
  go_wp2_with (first
    | (go_at_call 26; refine (HR.out _ HA.out).mono ?_; rintro e w1 ⟨rfl, hb1⟩; have HB1 := Lib.hid hb1; clear hb1)
    | (go_at_call 25; refine (fits_any _ own _ (cell_row (World.alloc_heap_new _ _) 0) (by unfold maxLen; omega)).mono ?_; rintro e w2 ⟨rfl, rfl⟩; have HB2 := Lib.hid (HB1.out.alloc HB1.out.size (.cells #[.string own] 9)); generalize w1.alloc (.cells #[.string own] 9) = w2 at *)
    | (go_at_call 27; refine (values_any _ _ _ _).mono ?_; rintro e w' ⟨rfl, rfl⟩))
  have HB3 := Lib.hid (HB2.out.alloc HB2.out.size (.cells (cv ⟨0, 0, own⟩) 24))
  have HB4 := Lib.hid (HB3.out.alloc HB3.out.size (.cells #[.slice A l.length c] 36))
  refine range_lawP (gf := 28) (lb := #[.pointer (some ⟨w2.heap.size + 1, 0, none⟩)]) rfl (enters_of Try.func28 (by kernel_rfl) rfl) (values1_iter (w2.heap.size + 1) A c l (by omega)) (fun _ => rfl)
    (fun pre W => W.heap[w2.heap.size]? = some (.cells (cv (bestV ⟨0, 0, own⟩ pre)) 24 (0, 0)) ∧ Boxed W (w2.heap.size + 1) 36 (.slice A l.length c) ∧ Below w.heap.size w W)
    (fun _ _ _ => False)
    ((own_cells _ _ _ _ _).and ((own_box _ _ _ _).and (own_below (Nat.le_refl _) (by have := HB4.out.size; exact this)))) own_false (fun _ _ h => ⟨h.2.1.cell, HA.out.below h.2.2⟩) ?h0 ?hround ?hdone ?hstop
  case h0 =>
    refine ⟨obj_alloc (World.alloc_heap_new w2 (.cells (cv ⟨0, 0, own⟩) 24)) _, ?_, HB4.out⟩
    have h := Boxed.new (w2.alloc (.cells (cv ⟨0, 0, own⟩) 24)) 36 (.slice A l.length c)
    rw [World.size_alloc] at h
    exact h
  case hround =>
    rintro L pre x post W hxs hlL hlW ⟨hb1, hb2, hB⟩
    have hx : x.ok := hok x (by rw [hxs]; simp)
    have hpo : (bestV ⟨0, 0, own⟩ pre).ok := bestV_ok ⟨by simp only []; omega, by simp only []; omega, ho⟩ (fun y hy => hok y (by rw [hxs]; simp [hy]))
    have HS := Lib.hid (bestV_snoc ⟨0, 0, own⟩ pre x)
    dsimp only [encV]
    clear hxs
    gi_wp2
    refine ⟨keeps_below ((Below.refl _ W).alloc (Nat.le_refl _) _), ⟨obj_alloc hb1 _, hb2.alloc _, hB.alloc (by have := hB.size; omega) _⟩, ?_⟩
    clear hb1 hb2 hB
    rintro W2 hg hsz ⟨hb1, hb2, hB⟩
    have hbn := (hg.block W.heap.size (by simp) (by simp; omega)).trans (World.alloc_heap_new W _)
    obtain ⟨a0, a1, a2, f0, f1, f2, z0⟩ := cells3 hbn
    generalize bestV ⟨0, 0, own⟩ pre = y at *
    obtain ⟨b0, b1, b2, g0, g1, g2, z1⟩ := cells3 hb1
    have HSZ := Lib.hid hsz
    clear hsz
    obtain ⟨hx1, hx2, hx3⟩ := hx
    obtain ⟨hy1, hy2, hy3⟩ := hpo
    by_cases hlt : y.b < x.b
    · rw [if_pos hlt] at HS
      have HB1' := Lib.hid hb1
      clear hb1
      gi_wp2
      have hne : w2.heap.size + 1 ≠ w2.heap.size := by omega
      have hle : w.heap.size ≤ w2.heap.size := HB2.out.size
      refine ⟨?_, ?_, ?_, ?_⟩
      · exact ((keeps_set W2 ⟨w2.heap.size, 0, none⟩ (.int .u64 (x.p : Int))).trans (keeps_set _ ⟨w2.heap.size, 1, none⟩ (.int .u64 (x.b : Int)))).trans (keeps_set _ ⟨w2.heap.size, 2, none⟩ (.string x.s))
      rotate_left
      · exact box_far (box_far (box_far hb2 hne 0 _) hne 1 _) hne 2 _
      · exact ((hB.setCell (p := ⟨w2.heap.size, 0, none⟩) hle _).setCell (p := ⟨w2.heap.size, 1, none⟩) hle _).setCell (p := ⟨w2.heap.size, 2, none⟩) hle _
      rw [HS.out, ← cv_set y x]
      exact row_set (row_set (row_set HB1'.out _ _) _ _) _ _
    · rw [if_neg hlt] at HS
      gi_wp2
      exact ⟨KeepsFrom.refl _ _, by rw [HS.out]; exact hb1, hb2, hB⟩
  case hdone =>
    rintro D W hD ⟨hb1, hb2, hB⟩ hK
    obtain ⟨b0, b1, b2, g0, g1, g2, z1⟩ := cells3 hb1
    go_wp2
    refine leaves_mark2 rfl hK ?_
    exact ⟨rfl, below_put hB (by have := HB2.out.size; simp at hD; omega) (Nat.le_refl _)⟩
  case hstop => exact fun _ _ _ _ _ _ h _ => h.elim

set_option maxRecDepth 100000 in
set_option maxHeartbeats 1000000 in
theorem proposal_bad2 (n : Int) (A : Option Addr) (c : Nat) (l : List Vt) (own : ByteArray) (w : World) (ha : ArgAt w 3 A l.length (cellsVs l)) (hl : l.length ≤ 4611686018427387903) (hok : ∀ x ∈ l, x.ok) (ho : own.size ≤ 140737488355328)
    (hn1 : -9223372036854775808 ≤ n) (hn2 : n ≤ 9223372036854775807) (h1 : ¬ n < 1) (h2 : ¬ 16 < n) (h3 : ¬ n < (l.length : Int)) (h4 : ¬ 2 * (l.length : Int) ≤ n) (hr : l.all rightB = true) (h5 : ¬ own.size ≤ 4000) :
    Calls Try.prog 22 #[.int .i64 n, .slice A l.length c, .string own] w fun e w' => e = .returned (.tuple #[.string ⟨#[]⟩, .int .i64 2]) ∧ Below w.heap.size w w' := by
  have HA := Lib.hid ha
  clear ha
  have HR := Lib.hid (fun w1 h => areRight_any A c l w1 h (by omega) hok)
  rw [hr] at HR
  have h5' : decide (own.size ≤ 4000) = false := by simp; omega
  clear hr
  refine calls_marksP Try.func22 rfl ?_
  simp only [Try.ntmps22, List.size_toArray, List.length_cons, List.length_nil, Nat.reduceAdd, Nat.reduceSub, Array.replicate_succ, Array.replicate_zero, List.push_toArray, List.append_toArray, List.nil_append, List.cons_append]
  go_wp2_with (first
    | (go_at_call 26; refine (HR.out _ HA.out).mono ?_; rintro e w1 ⟨rfl, hb1⟩)
    | (go_at_call 25; refine (fits_any _ own _ (cell_row (World.alloc_heap_new _ _) 0) (by unfold maxLen; omega)).mono ?_; rintro e w2 ⟨rfl, rfl⟩))
  exact leaves_plain2 rfl ⟨rfl, hb1.alloc hb1.size _⟩

theorem proposal_any (n : Int) (A : Option Addr) (c : Nat) (l : List Vt) (own : ByteArray) (w : World) (ha : ArgAt w 3 A l.length (cellsVs l)) (hl : l.length ≤ 4611686018427387903) (hok : ∀ x ∈ l, x.ok) (ho : own.size ≤ 140737488355328)
    (hn1 : -9223372036854775808 ≤ n) (hn2 : n ≤ 9223372036854775807) :
    Calls Try.prog 22 #[.int .i64 n, .slice A l.length c, .string own] w fun e w' => e = .returned (.tuple #[.string (mprop n l own).1, .int .i64 (mprop n l own).2]) ∧ Below w.heap.size w w' := by
  by_cases HG : 1 ≤ n ∧ n ≤ 16 ∧ (l.length : Int) ≤ n ∧ n < 2 * (l.length : Int)
  · cases hr : l.all rightB
    · rw [mprop_bad HG (fun h => by rw [hr] at h; cases h.1)]
      exact proposal_bad1 n A c l own w ha hl hok ho hn1 hn2 (by omega) (by omega) (by omega) (by omega) hr
    · by_cases h5 : own.size ≤ 4000
      · rw [mprop_yes HG ⟨hr, h5⟩]
        exact proposal_yes n A c l own w ha hl hok ho hn1 hn2 (by omega) (by omega) (by omega) (by omega) hr h5
      · rw [mprop_bad HG (fun h => h5 h.2)]
        exact proposal_bad2 n A c l own w ha hl hok ho hn1 hn2 (by omega) (by omega) (by omega) (by omega) hr h5
  · rw [mprop_group HG]
    exact proposal_no n A c l own w ha hl hok ho hn1 hn2 HG
end Go.Proofs.Ytcfaeddjohpohaa
