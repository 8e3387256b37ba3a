/-
  What the functions of store compute, one by one: the write of a record, by append. Conditions: at most 2^21 bytes lie there.
-/
import Derived.Test.YtcepdmpdabiglaaStoB
namespace Go.Proofs.Ytcepdmpdabiglaa
open Go.RowKit Go.Shelf Ros
attribute [local go_sem] Oper.semAt_some
set_option linter.unusedVariables false

theorem StA.cells {w : World} {S : Nat → Prop} {g : Nat} {s : St} (h : StA w S g s) : (w.cell? ⟨g, 1, none⟩ = some (.string s.snap) ∧ w.cell? ⟨g, 2, none⟩ = some (.int .i64 s.cap) ∧ w.cell? ⟨g, 3, none⟩ = some (.bool s.cut) ∧ w.cell? ⟨g, 4, none⟩ = some (.int .i64 (s.keep : Int)) ∧ w.cell? ⟨g, 5, none⟩ = some (.bool s.down)) ∧
    w.frozen? ⟨g, 3, none⟩ = false ∧ w.frozen? ⟨g, 4, none⟩ = false ∧ w.frozen? ⟨g, 5, none⟩ = false := by
  obtain ⟨v, hg, _, _⟩ := h
  exact ⟨⟨cell_row hg 1, cell_row hg 2, cell_row hg 3, cell_row hg 4, cell_row hg 5⟩, obj_frozen hg 3, obj_frozen hg 4, obj_frozen hg 5⟩
/-- Stores into the three last cells. -/
theorem StA.set3 {w w0 : World} {S S0 : Nat → Prop} {g : Nat} {s : St} (h : StA w S g s) (ht : Turn S0 S w0 w) (c d : Bool) (k : Nat) :
    StA (((w.setCell ⟨g, 3, none⟩ (.bool c)).setCell ⟨g, 4, none⟩ (.int .i64 (k : Int))).setCell ⟨g, 5, none⟩ (.bool d)) S g { s with cut := c, keep := k, down := d } ∧
      Turn S0 S w0 (((w.setCell ⟨g, 3, none⟩ (.bool c)).setCell ⟨g, 4, none⟩ (.int .i64 (k : Int))).setCell ⟨g, 5, none⟩ (.bool d)) := by
  have hSg : S g := by obtain ⟨v, _, _, hS⟩ := h; exact (hS g).2 (.inl rfl)
  have hd := ht.foot g hSg
  refine ⟨?_, ((ht.set_ hd _).set_ hd _).set_ hd _⟩
  obtain ⟨v, hg, hr, hS⟩ := h
  have hne := hr.ne_ hg (by decide)
  refine ⟨v, ?_, hr.keep fun k hk => ?_, hS⟩
  · have := obj_set (obj_set (obj_set hg 3 (.bool c)) 4 (.int .i64 (k : Int))) 5 (.bool d)
    simpa [cellsSt] using this
  · have hkg : k ≠ g := fun e => hne (by rw [hk, e])
    rw [Below.heap_setCell _ _ _ _ hkg, Below.heap_setCell _ _ _ _ hkg, Below.heap_setCell _ _ _ _ hkg]
/-- Stores into cut and keep. -/
theorem StA.set2 {w w0 : World} {S S0 : Nat → Prop} {g : Nat} {s : St} (h : StA w S g s) (ht : Turn S0 S w0 w) (c : Bool) (k : Nat) :
    StA ((w.setCell ⟨g, 3, none⟩ (.bool c)).setCell ⟨g, 4, none⟩ (.int .i64 (k : Int))) S g { s with cut := c, keep := k } ∧
      Turn S0 S w0 ((w.setCell ⟨g, 3, none⟩ (.bool c)).setCell ⟨g, 4, none⟩ (.int .i64 (k : Int))) := by
  have hSg : S g := by obtain ⟨v, _, _, hS⟩ := h; exact (hS g).2 (.inl rfl)
  have hd := ht.foot g hSg
  refine ⟨?_, (ht.set_ hd _).set_ hd _⟩
  obtain ⟨v, hg, hr, hS⟩ := h
  have hne := hr.ne_ hg (by decide)
  refine ⟨v, ?_, hr.keep fun k hk => ?_, hS⟩
  · have := obj_set (obj_set hg 3 (.bool c)) 4 (.int .i64 (k : Int))
    simpa [cellsSt] using this
  · have hkg : k ≠ g := fun e => hne (by rw [hk, e])
    rw [Below.heap_setCell _ _ _ _ hkg, Below.heap_setCell _ _ _ _ hkg]

set_option maxHeartbeats 400000 in
theorem write_down (S : Nat → Prop) (g F : Nat) (s : St) (d : ByteArray) (x : Int) (w : World) (h : StA w S g s) (hs : s.down = true) :
    Calls Try.prog 17 #[.pointer (some ⟨g, 0, none⟩), .string d, .int .i64 x, .func (.func F) #[.pointer (some ⟨g, 0, none⟩)] #[]] w fun e w' => e = .returned (.int .i64 31) ∧ w = w' := by
  obtain ⟨⟨_, _, _, _, p5⟩, _⟩ := h.cells
  rw [hs] at p5
  go_enter Try.func17, Try.ntmps17
  go_wp2
  go_ret
  exact ⟨rfl, rfl⟩

set_option maxHeartbeats 400000 in
theorem write_long (S : Nat → Prop) (g F : Nat) (s : St) (d : ByteArray) (x : Int) (w : World) (h : StA w S g s) (hs : s.down = false) (hd : ¬ d.size ≤ 4096) (hd2 : d.size ≤ maxLen) :
    Calls Try.prog 17 #[.pointer (some ⟨g, 0, none⟩), .string d, .int .i64 x, .func (.func F) #[.pointer (some ⟨g, 0, none⟩)] #[]] w fun e w' => e = .returned (.int .i64 30) ∧ Below w.heap.size w w' := by
  obtain ⟨⟨_, _, _, _, p5⟩, _⟩ := h.cells
  rw [hs] at p5
  have HR := Lib.hid (fun W : World => record_no d W hd hd2)
  go_enter Try.func17, Try.ntmps17
  go_wp2_with (go_at_call 24; refine (HR.out _).mono ?_; rintro e w1 ⟨rfl, b1⟩)
  go_ret
  exact ⟨rfl, b1⟩

set_option maxHeartbeats 400000 in
theorem write_room (S : Nat → Prop) (g F : Nat) (s : St) (d : ByteArray) (n : Nat) (w : World) (h : StA w S g s) (hs : s.down = false) (hd : d.size ≤ 4096) (hn : n ≤ 4000000) (hc1 : 64 ≤ s.cap) (hc2 : s.cap ≤ 1048576) (hf : s.cap < (n : Int) + ((d.size : Int) + 9)) :
    Calls Try.prog 17 #[.pointer (some ⟨g, 0, none⟩), .string d, .int .i64 (n : Int), .func (.func F) #[.pointer (some ⟨g, 0, none⟩)] #[]] w fun e w' => e = .returned (.int .i64 30) ∧ Below w.heap.size w w' := by
  have HC := Lib.hid (fun (w1 : World) (b1 : Below w.heap.size w w1) => (h.below b1).cells)
  obtain ⟨⟨_, _, _, _, p5⟩, _⟩ := h.cells
  rw [hs] at p5
  have HR := Lib.hid (fun W : World => record_yes d W hd)
  have hz := rec_size d
  generalize str (recL (bl d)) = r at *
  have hr2 : r.size ≤ 4105 := by omega
  have hgt : (s.cap < (n : Int) + (r.size : Int)) = True := eq_true (by omega)
  clear hz h
  go_enter Try.func17, Try.ntmps17
  go_wp2_with (go_at_call 24; refine (HR.out _).mono ?_; rintro e w1 ⟨rfl, b1⟩; obtain ⟨⟨_, q2, _, _, _⟩, _⟩ := HC.out w1 b1)
  go_ret
  exact ⟨rfl, b1⟩

set_option maxHeartbeats 400000 in
theorem write_app0 (S : Nat → Prop) (g : Nat) (s : St) (d : ByteArray) (n : Nat) (w : World) (h : StA w S g s) (hs : s.down = false) (hcut : s.cut = false) (hd : d.size ≤ 4096) (hn : n ≤ 4000000) (hl : s.log.length ≤ 1990000) (hc1 : 64 ≤ s.cap) (hc2 : s.cap ≤ 1048576) (hf : (n : Int) + ((d.size : Int) + 9) ≤ s.cap) :
    Calls Try.prog 17 #[.pointer (some ⟨g, 0, none⟩), .string d, .int .i64 (n : Int), .func (.func 19) #[.pointer (some ⟨g, 0, none⟩)] #[]] w fun e w' => e = .returned (.int .i64 0) ∧
      ∃ S', StA w' S' g { s with log := s.log ++ recL (bl d) } ∧ Turn S S' w w' := by
  have HC := Lib.hid (fun (w1 : World) (b1 : Below w.heap.size w w1) => (h.below b1).cells)
  rw [hcut] at HC
  obtain ⟨⟨_, _, _, _, p5⟩, _⟩ := h.cells
  rw [hs] at p5
  have HR := Lib.hid (fun W : World => record_yes d W hd)
  have hz := rec_size d
  have HP := Lib.hid (fun (w1 : World) (b1 : Below w.heap.size w w1) => mappend_any S g s (str (recL (bl d))) (str (recL (bl d))).size w1 (h.below b1) (Nat.le_refl _) (by omega) hl)
  rw [bl_str, size_str, List.take_length, ← size_str] at HP
  have HT := Lib.hid (fun (w1 : World) (b1 : Below w.heap.size w w1) => Turn.of_below b1 h.lt)
  generalize str (recL (bl d)) = r at *
  have hr2 : r.size ≤ 4105 := by omega
  have hgt : (s.cap < (n : Int) + (r.size : Int)) = False := eq_false (by omega)
  clear hz h
  go_enter Try.func17, Try.ntmps17
  go_wp2_with (first
    | (go_at_call 24; refine (HR.out _).mono ?_; rintro e w1 ⟨rfl, b1⟩; obtain ⟨⟨_, q2, q3, _, _⟩, _⟩ := HC.out w1 b1)
    | (go_at_call 19; refine (HP.out _ b1).mono ?_; rintro e w2 ⟨⟨v2, rfl⟩, S2, h2, t2⟩))
  go_ret
  exact ⟨rfl, S2, h2, (HT.out w1 b1).trans t2⟩

set_option maxHeartbeats 400000 in
theorem write_app1 (S : Nat → Prop) (g : Nat) (s : St) (d : ByteArray) (n : Nat) (w : World) (h : StA w S g s) (hs : s.down = false) (hcut : s.cut = true) (hd : d.size ≤ 4096) (hn : n ≤ 4000000) (hl : s.log.length ≤ 1990000) (hc1 : 64 ≤ s.cap) (hc2 : s.cap ≤ 1048576) (hf : (n : Int) + ((d.size : Int) + 9) ≤ s.cap) :
    Calls Try.prog 17 #[.pointer (some ⟨g, 0, none⟩), .string d, .int .i64 (n : Int), .func (.func 19) #[.pointer (some ⟨g, 0, none⟩)] #[]] w fun e w' => e = .returned (.int .i64 31) ∧
      ∃ S', StA w' S' g { s with log := s.log ++ (recL (bl d)).take (min s.keep (d.size + 9)), cut := false, keep := 0, down := true } ∧ Turn S S' w w' := by
  have HC := Lib.hid (fun (w1 : World) (b1 : Below w.heap.size w w1) => (h.below b1).cells)
  rw [hcut] at HC
  obtain ⟨⟨_, _, _, _, p5⟩, _⟩ := h.cells
  rw [hs] at p5
  have HR := Lib.hid (fun W : World => record_yes d W hd)
  have hz := rec_size d
  rw [← hz]
  have HP := Lib.hid (fun (w1 : World) (b1 : Below w.heap.size w w1) => mappend_any S g s (str (recL (bl d))) (min s.keep (str (recL (bl d))).size) w1 (h.below b1) (by omega) (by omega) hl)
  rw [bl_str] at HP
  have HT := Lib.hid (fun (w1 : World) (b1 : Below w.heap.size w w1) => Turn.of_below b1 h.lt)
  generalize hr : str (recL (bl d)) = r at *
  have hr2 : r.size ≤ 4105 := by omega
  have hgt : (s.cap < (n : Int) + (r.size : Int)) = False := eq_false (by omega)
  clear hz h hr
  generalize (recL (bl d)).take (min s.keep r.size) = L at *
  by_cases hk : s.keep ≤ r.size
  · rw [Nat.min_eq_left hk] at HP
    have hmin : ((r.size : Int) < (s.keep : Int)) = False := eq_false (by omega)
    go_enter Try.func17, Try.ntmps17
    go_wp2_with (first
      | (go_at_call 24; refine (HR.out _).mono ?_; rintro e w1 ⟨rfl, b1⟩; obtain ⟨⟨_, q2, q3, q4, _⟩, _⟩ := HC.out w1 b1)
      | (go_at_call 19; refine (HP.out _ b1).mono ?_; rintro e w2 ⟨⟨v2, rfl⟩, S2, h2, t2⟩; obtain ⟨⟨_, _, z3, z4, z5⟩, f3, f4, f5⟩ := h2.cells))
    go_ret
    obtain ⟨a1, a2⟩ := h2.set3 t2 false true 0
    exact ⟨rfl, S2, a1, (HT.out w1 b1).trans a2⟩
  · rw [Nat.min_eq_right (by omega)] at HP
    have hmin : ((r.size : Int) < (s.keep : Int)) = True := eq_true (by omega)
    go_enter Try.func17, Try.ntmps17
    go_wp2_with (first
      | (go_at_call 24; refine (HR.out _).mono ?_; rintro e w1 ⟨rfl, b1⟩; obtain ⟨⟨_, q2, q3, q4, _⟩, _⟩ := HC.out w1 b1)
      | (go_at_call 19; refine (HP.out _ b1).mono ?_; rintro e w2 ⟨⟨v2, rfl⟩, S2, h2, t2⟩; obtain ⟨⟨_, _, z3, z4, z5⟩, f3, f4, f5⟩ := h2.cells))
    go_ret
    obtain ⟨a1, a2⟩ := h2.set3 t2 false true 0
    exact ⟨rfl, S2, a1, (HT.out w1 b1).trans a2⟩
end Go.Proofs.Ytcepdmpdabiglaa
