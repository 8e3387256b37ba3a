/-
  What the functions of store compute, one by one: writes, snapshots, cuts, as a plain store does. Conditions: at most 2^21 bytes lie there.
-/
import Derived.Test.YtcepdmpdabiglaaStoC
namespace Ros
open Go Go.RowKit
theorem swrite_down {s : St} (d : ByteArray) (h : s.down = true) : swrite s d = (31, s) := by unfold swrite; rw [if_pos h]
theorem swrite_no {s : St} {d : ByteArray} (h : s.down = false) (hf : ¬ (d.size ≤ 4096 ∧ (s.holds : Int) + ((d.size : Int) + 9) ≤ s.cap)) : swrite s d = (30, s) := by
  unfold swrite fitsW; rw [if_neg (by rw [h]; simp), if_neg (by simpa using hf)]
theorem swrite_yes {s : St} {d : ByteArray} (h : s.down = false) (hf : d.size ≤ 4096 ∧ (s.holds : Int) + ((d.size : Int) + 9) ≤ s.cap) (hc : s.cut = false) : swrite s d = (0, { s with log := s.log ++ recL (bl d) }) := by
  unfold swrite fitsW; rw [if_neg (by rw [h]; simp), if_pos (by simpa using hf), if_neg (by rw [hc]; simp)]
theorem swrite_cut {s : St} {d : ByteArray} (h : s.down = false) (hf : d.size ≤ 4096 ∧ (s.holds : Int) + ((d.size : Int) + 9) ≤ s.cap) (hc : s.cut = true) : swrite s d = (31, { s with log := s.log ++ (recL (bl d)).take (min s.keep (d.size + 9)), cut := false, keep := 0, down := true }) := by
  unfold swrite fitsW; rw [if_neg (by rw [h]; simp), if_pos (by simpa using hf), if_pos hc]
theorem ssnap_down {s : St} (d : ByteArray) (h : s.down = true) : ssnap s d = (31, s) := by unfold ssnap; rw [if_pos h]
theorem ssnap_no {s : St} {d : ByteArray} (h : s.down = false) (hf : ¬ (d.size ≤ 4096 ∧ (d.size : Int) + 9 ≤ s.cap)) : ssnap s d = (30, s) := by
  unfold ssnap fitsS; rw [if_neg (by rw [h]; simp), if_neg (by simpa using hf)]
theorem ssnap_yes {s : St} {d : ByteArray} (h : s.down = false) (hf : d.size ≤ 4096 ∧ (d.size : Int) + 9 ≤ s.cap) (hc : s.cut = false) : ssnap s d = (0, { s with log := [], snap := str (recL (bl d)) }) := by
  unfold ssnap fitsS; rw [if_neg (by rw [h]; simp), if_pos (by simpa using hf), if_neg (by rw [hc]; simp)]
theorem ssnap_cut {s : St} {d : ByteArray} (h : s.down = false) (hf : d.size ≤ 4096 ∧ (d.size : Int) + 9 ≤ s.cap) (hc : s.cut = true) : ssnap s d = (31, if d.size + 9 ≤ s.keep then { s with log := [], snap := str (recL (bl d)), cut := false, keep := 0, down := true } else { s with cut := false, keep := 0, down := true }) := by
  unfold ssnap fitsS; rw [if_neg (by rw [h]; simp), if_pos (by simpa using hf), if_pos hc]
end Ros
namespace Go.Proofs.Ytcepdmpdabiglaa
open Go.RowKit Go.Shelf Ros
attribute [local go_sem] Oper.semAt_some
set_option linter.unusedVariables false

set_option maxHeartbeats 400000 in
theorem write_rep0 (S : Nat → Prop) (g : Nat) (s : St) (d : ByteArray) (w : World) (h : StA w S g s) (hs : s.down = false) (hcut : s.cut = false) (hd : d.size ≤ 4096) (hc1 : 64 ≤ s.cap) (hc2 : s.cap ≤ 1048576) (hf : (d.size : Int) + 9 ≤ s.cap) :
    Calls Try.prog 17 #[.pointer (some ⟨g, 0, none⟩), .string d, .int .i64 0, .func (.func 22) #[.pointer (some ⟨g, 0, none⟩)] #[]] w fun e w' => e = .returned (.int .i64 0) ∧
      ∃ S', StA w' S' g { s with log := [], snap := str (recL (bl d)) } ∧ Turn S S' w w' := by
  have HC := Lib.hid (fun (w1 : World) (b1 : Below w.heap.size w w1) => (h.below b1).cells)
  rw [hcut] at HC
  obtain ⟨⟨_, _, _, _, p5⟩, _⟩ := h.cells
  rw [hs] at p5
  have HR := Lib.hid (fun W : World => record_yes d W hd)
  have hz := rec_size d
  have HP := Lib.hid (fun (w1 : World) (b1 : Below w.heap.size w w1) => replace_all S g s (str (recL (bl d))) w1 (h.below b1))
  have HT := Lib.hid (fun (w1 : World) (b1 : Below w.heap.size w w1) => Turn.of_below b1 h.lt)
  generalize str (recL (bl d)) = r at *
  have hr2 : r.size ≤ 4105 := by omega
  have hgt : (s.cap < (r.size : Int)) = False := eq_false (by omega)
  clear hz h
  go_enter Try.func17, Try.ntmps17
  go_wp2_with (first
    | (go_at_call 24; refine (HR.out _).mono ?_; rintro e w1 ⟨rfl, b1⟩; obtain ⟨⟨_, q2, q3, _, _⟩, _⟩ := HC.out w1 b1)
    | (go_at_call 22; refine (HP.out _ b1).mono ?_; rintro e w2 ⟨⟨v2, rfl⟩, S2, h2, t2⟩))
  go_ret
  exact ⟨rfl, S2, h2, (HT.out w1 b1).trans t2⟩

set_option maxHeartbeats 400000 in
theorem write_repno (S : Nat → Prop) (g : Nat) (s : St) (d : ByteArray) (w : World) (h : StA w S g s) (hs : s.down = false) (hd : d.size ≤ 4096) (hf : s.cap < (d.size : Int) + 9) (hc1 : 64 ≤ s.cap) :
    Calls Try.prog 17 #[.pointer (some ⟨g, 0, none⟩), .string d, .int .i64 0, .func (.func 22) #[.pointer (some ⟨g, 0, none⟩)] #[]] w fun e w' => e = .returned (.int .i64 30) ∧ Below w.heap.size w w' := by
  have HC := Lib.hid (fun (w1 : World) (b1 : Below w.heap.size w w1) => (h.below b1).cells)
  obtain ⟨⟨_, _, _, _, p5⟩, _⟩ := h.cells
  rw [hs] at p5
  have HR := Lib.hid (fun W : World => record_yes d W hd)
  have hz := rec_size d
  generalize str (recL (bl d)) = r at *
  have hr2 : r.size ≤ 4105 := by omega
  have hgt : (s.cap < (r.size : Int)) = True := eq_true (by omega)
  clear hz h
  go_enter Try.func17, Try.ntmps17
  go_wp2_with (go_at_call 24; refine (HR.out _).mono ?_; rintro e w1 ⟨rfl, b1⟩; obtain ⟨⟨_, q2, _, _, _⟩, _⟩ := HC.out w1 b1)
  go_ret
  exact ⟨rfl, b1⟩

set_option maxHeartbeats 800000 in
theorem write_rep1 (S : Nat → Prop) (g : Nat) (s : St) (d : ByteArray) (w : World) (h : StA w S g s) (hs : s.down = false) (hcut : s.cut = true) (hd : d.size ≤ 4096) (hc1 : 64 ≤ s.cap) (hc2 : s.cap ≤ 1048576) (hf : (d.size : Int) + 9 ≤ s.cap) :
    Calls Try.prog 17 #[.pointer (some ⟨g, 0, none⟩), .string d, .int .i64 0, .func (.func 22) #[.pointer (some ⟨g, 0, none⟩)] #[]] w fun e w' => e = .returned (.int .i64 31) ∧
      ∃ S', StA w' S' g (if d.size + 9 ≤ s.keep then { s with log := [], snap := str (recL (bl d)), cut := false, keep := 0, down := true } else { s with cut := false, keep := 0, down := true }) ∧ Turn S S' w w' := by
  have HC := Lib.hid (fun (w1 : World) (b1 : Below w.heap.size w w1) => (h.below b1).cells)
  rw [hcut] at HC
  obtain ⟨⟨_, _, _, _, p5⟩, _⟩ := h.cells
  rw [hs] at p5
  have HR := Lib.hid (fun W : World => record_yes d W hd)
  have hz := rec_size d
  rw [← hz]
  have HP := Lib.hid (fun (w1 : World) (b1 : Below w.heap.size w w1) => replace_all S g s (str (recL (bl d))) w1 (h.below b1))
  have HT := Lib.hid (fun (w1 : World) (b1 : Below w.heap.size w w1) => Turn.of_below b1 h.lt)
  have HB := Lib.hid (fun (w1 : World) (b1 : Below w.heap.size w w1) => h.below b1)
  generalize str (recL (bl d)) = r at *
  have hr2 : r.size ≤ 4105 := by omega
  have hgt : (s.cap < (r.size : Int)) = False := eq_false (by omega)
  clear hz h
  by_cases hk : r.size ≤ s.keep
  · rw [if_pos hk]
    by_cases hk2 : s.keep = r.size
    · have hmin : ((r.size : Int) < (s.keep : Int)) = False := eq_false (by omega)
      have HP2 := Lib.hid (fun (w1 : World) (b1 : Below w.heap.size w w1) => hk2.symm ▸ HP.out w1 b1)
      rw [show (r.size : Int) = (s.keep : Int) by rw [hk2]] at HP
      have HK := Lib.hid hk2
      clear hk2 HP2
      go_enter Try.func17, Try.ntmps17
      go_wp2_with (first
        | (go_at_call 24; refine (HR.out _).mono ?_; rintro e w1 ⟨rfl, b1⟩; obtain ⟨⟨_, q2, q3, q4, _⟩, _⟩ := HC.out w1 b1)
        | (go_at_call 22; refine (HP.out _ b1).mono ?_; rintro e w2 ⟨⟨v2, rfl⟩, S2, h2, t2⟩; obtain ⟨⟨_, _, z3, z4, z5⟩, f3, f4, f5⟩ := h2.cells))
      go_ret
      obtain ⟨a1, a2⟩ := h2.set3 t2 false true 0
      exact ⟨rfl, S2, a1, (HT.out w1 b1).trans a2⟩
    · have hmin : ((r.size : Int) < (s.keep : Int)) = True := eq_true (by omega)
      go_enter Try.func17, Try.ntmps17
      go_wp2_with (first
        | (go_at_call 24; refine (HR.out _).mono ?_; rintro e w1 ⟨rfl, b1⟩; obtain ⟨⟨_, q2, q3, q4, _⟩, _⟩ := HC.out w1 b1)
        | (go_at_call 22; refine (HP.out _ b1).mono ?_; rintro e w2 ⟨⟨v2, rfl⟩, S2, h2, t2⟩; obtain ⟨⟨_, _, z3, z4, z5⟩, f3, f4, f5⟩ := h2.cells))
      go_ret
      obtain ⟨a1, a2⟩ := h2.set3 t2 false true 0
      exact ⟨rfl, S2, a1, (HT.out w1 b1).trans a2⟩
  · rw [if_neg hk]
    have hmin : ((r.size : Int) < (s.keep : Int)) = False := eq_false (by omega)
    have HQ := Lib.hid (fun w1 : World => replace_some g r s.keep w1 (by omega))
    go_enter Try.func17, Try.ntmps17
    go_wp2_with (first
      | (go_at_call 24; refine (HR.out _).mono ?_; rintro e w1 ⟨rfl, b1⟩; have h2 := HB.out w1 b1; obtain ⟨⟨_, q2, q3, q4, z5⟩, f3, f4, f5⟩ := h2.cells; rw [hcut] at q3)
      | (go_at_call 22; refine (HQ.out _).mono ?_; rintro e w2 ⟨⟨v2, rfl⟩, rfl⟩))
    go_ret
    obtain ⟨a1, a2⟩ := h2.set3 (HT.out w1 b1) false true 0
    exact ⟨rfl, S, a1, a2⟩

theorem writeA_any (S : Nat → Prop) (g : Nat) (s : St) (d : ByteArray) (w : World) (h : StA w S g s) (hd : d.size ≤ maxLen) (hl : s.log.length ≤ 1990000) (hn : s.snap.size ≤ 1990000) (hc1 : 64 ≤ s.cap) (hc2 : s.cap ≤ 1048576) :
    Calls Try.prog 17 #[.pointer (some ⟨g, 0, none⟩), .string d, .int .i64 (s.holds : Int), .func (.func 19) #[.pointer (some ⟨g, 0, none⟩)] #[]] w fun e w' => e = .returned (.int .i64 (swrite s d).1) ∧
      ∃ S', StA w' S' g (swrite s d).2 ∧ Turn S S' w w' := by
  have hh : s.holds ≤ 4000000 := by unfold St.holds; omega
  cases hs : s.down
  · by_cases hf : d.size ≤ 4096 ∧ (s.holds : Int) + ((d.size : Int) + 9) ≤ s.cap
    · cases hc : s.cut
      · rw [swrite_yes hs hf hc]; exact write_app0 S g s d _ w h hs hc hf.1 hh hl hc1 hc2 hf.2
      · rw [swrite_cut hs hf hc]; exact write_app1 S g s d _ w h hs hc hf.1 hh hl hc1 hc2 hf.2
    · rw [swrite_no hs hf]
      by_cases hd4 : d.size ≤ 4096
      · exact (write_room S g _ s d _ w h hs hd4 hh hc1 hc2 (by omega)).mono fun _ _ ⟨he, hb⟩ => ⟨he, S, h.below hb, .of_below hb h.lt⟩
      · exact (write_long S g _ s d _ w h hs hd4 hd).mono fun _ _ ⟨he, hb⟩ => ⟨he, S, h.below hb, .of_below hb h.lt⟩
  · rw [swrite_down d hs]
    refine (write_down S g _ s d _ w h hs).mono ?_
    rintro e w' ⟨rfl, rfl⟩
    exact ⟨rfl, S, h, .refl h.lt⟩
theorem writeR_any (S : Nat → Prop) (g : Nat) (s : St) (d : ByteArray) (w : World) (h : StA w S g s) (hd : d.size ≤ maxLen) (hc1 : 64 ≤ s.cap) (hc2 : s.cap ≤ 1048576) :
    Calls Try.prog 17 #[.pointer (some ⟨g, 0, none⟩), .string d, .int .i64 0, .func (.func 22) #[.pointer (some ⟨g, 0, none⟩)] #[]] w fun e w' => e = .returned (.int .i64 (ssnap s d).1) ∧
      ∃ S', StA w' S' g (ssnap s d).2 ∧ Turn S S' w w' := by
  cases hs : s.down
  · by_cases hf : d.size ≤ 4096 ∧ (d.size : Int) + 9 ≤ s.cap
    · cases hc : s.cut
      · rw [ssnap_yes hs hf hc]; exact write_rep0 S g s d w h hs hc hf.1 hc1 hc2 hf.2
      · rw [ssnap_cut hs hf hc]; exact write_rep1 S g s d w h hs hc hf.1 hc1 hc2 hf.2
    · rw [ssnap_no hs hf]
      by_cases hd4 : d.size ≤ 4096
      · exact (write_repno S g s d w h hs hd4 (by omega) hc1).mono fun _ _ ⟨he, hb⟩ => ⟨he, S, h.below hb, .of_below hb h.lt⟩
      · exact (write_long S g _ s d _ w h hs hd4 hd).mono fun _ _ ⟨he, hb⟩ => ⟨he, S, h.below hb, .of_below hb h.lt⟩
  · rw [ssnap_down d hs]
    refine (write_down S g _ s d _ w h hs).mono ?_
    rintro e w' ⟨rfl, rfl⟩
    exact ⟨rfl, S, h, .refl h.lt⟩
end Go.Proofs.Ytcepdmpdabiglaa
