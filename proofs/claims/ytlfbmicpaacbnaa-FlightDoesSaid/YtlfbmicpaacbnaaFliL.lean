/-
  The laws of flight, walked: what stands in all of them, and FlightFull. Conditions: none but the arguments' own.
-/
import Derived.Test.YtlfbmicpaacbnaaFliE
import Derived.Laws.StructEq
namespace Ros
open Go Go.RowKit
theorem msend_le {f : Fs} {to : Int} {s : ByteArray} (h : f.l.length ≤ 1000) : (msend f to s).2.l.length ≤ 1000 := by
  unfold msend mlaunch
  split
  · exact h
  · split
    · exact h
    · simp; omega
theorem mcopy_le {f : Fs} {a : Int} (h : f.l.length ≤ 1000) : (mcopy f a).2.l.length ≤ 1000 := by
  unfold mcopy mlaunch
  split
  · split
    · exact h
    · simp; omega
  · exact h
theorem mtake_le {f : Fs} {a : Int} (h : f.l.length ≤ 1000) : (mtake f a).2.l.length ≤ 1000 := by
  unfold mtake
  split
  · simp [List.length_eraseIdx]; split <;> omega
  · exact h
@[irreducible] def eFull (k : Nat) : Int := if 1000 < k then 30 else 0
theorem eFull_zero : eFull 0 = 0 := by unfold eFull; rfl
theorem eFull_iff (k : Nat) : (eFull k == 30) = decide (1000 < (k : Int)) := by
  unfold eFull
  split
  · simp; omega
  · simp; omega
theorem send_full {f : Fs} {k : Nat} {to : Int} {s : ByteArray} (hl : f.l.length = min k 1000) (h0 : 0 ≤ to) (h1 : to < 16) :
    (msend f to s).1.2 = eFull (k + 1) ∧ (msend f to s).2.l.length = min (k + 1) 1000 := by
  unfold msend mlaunch eFull
  rw [if_neg (by omega)]
  by_cases h : 1000 ≤ f.l.length
  · rw [if_pos h, if_pos (by omega)]; exact ⟨rfl, by simp only []; omega⟩
  · rw [if_neg h, if_neg (by omega)]; exact ⟨rfl, by simp; omega⟩
theorem copy_full {f : Fs} {k : Nat} (hl : f.l.length = min k 1000) (h0 : 0 < k) : (mcopy f 0).1.2 = eFull (k + 1) := by
  unfold mcopy mlaunch eFull
  have : isB f.l 0 = true := isB_iff.2 (by omega)
  rw [if_pos this]
  by_cases h : 1000 ≤ f.l.length
  · rw [if_pos h, if_pos (by omega)]
  · rw [if_neg h, if_neg (by omega)]
end Ros
namespace Go.Proofs.Ytlfbmicpaacbnaa
open Go.RowKit Go.Shelf Ros
attribute [local go_sem] Oper.semAt_some
attribute [local go_sem ↓] Go.wp_at_zero Go.wp_at_succ

/-- A flight that the call has made, in a world behind the call's. -/
def LawAt (w0 W : World) (S : Nat → Prop) (g : Nat) (f : Fs) : Prop := FlA W S g f.n f.l ∧ Below w0.heap.size w0 W ∧ ∀ k, S k → w0.heap.size ≤ k

section
variable {w0 W W' : World} {S S' : Nat → Prop} {g : Nat} {f f' : Fs}
theorem LawAt.turn (h : LawAt w0 W S g f) (hf : FlA W' S' g f'.n f'.l) (ht : Turn S S' W W') : LawAt w0 W' S' g f' := by
  obtain ⟨h1, h2⟩ := ht.below h.2.1 h.2.1.size h.2.2
  exact ⟨hf, h1, h2⟩
theorem LawAt.below (h : LawAt w0 W S g f) (hb : Below W.heap.size W W') : LawAt w0 W' S g f := h.turn (h.1.below hb) (.of_below hb h.1.lt)
theorem LawAt.alloc (h : LawAt w0 W S g f) (o : Obj) : LawAt w0 (W.alloc o) S g f := h.below ((Below.refl _ W).alloc (Nat.le_refl _) o)
theorem LawAt.start (h : FlA W' (fun k => k = W.heap.size) W.heap.size f.n f.l) (hb : Below W.heap.size W W') : LawAt W W' (fun k => k = W.heap.size) W.heap.size f := ⟨h, hb, fun k hk => by omega⟩
theorem LawAt.start2 (h : FlA W' (fun k => k = W.heap.size) W.heap.size f.n f.l) (hb : Below W.heap.size W W') (h0 : Below w0.heap.size w0 W) : LawAt w0 W' (fun k => k = W.heap.size) W.heap.size f := ⟨h, h0.trans (hb.mono h0.size), fun k hk => by have := h0.size; omega⟩
end

/-- The contracts, as the laws use them. -/
theorem send_law {w0 W : World} {S : Nat → Prop} {g : Nat} {f : Fs} (h : LawAt w0 W S g f) (hl : f.l.length ≤ 1000) (to : Int) (s : ByteArray) :
    Calls Try.prog 12 #[.pointer (some ⟨g, 0, none⟩), .int .i64 to, .string s] W fun e W' => e = .returned (.tuple #[.int .u32 ((msend f to s).1.1 : Int), .int .i64 (msend f to s).1.2]) ∧ ∃ S', LawAt w0 W' S' g (msend f to s).2 ∧ Turn S S' W W' :=
  (send_any S g f.n f.l to s W h.1 hl).mono fun _ _ ⟨he, S', hf, ht⟩ => ⟨he, S', h.turn hf ht, ht⟩
theorem copy_law {w0 W : World} {S : Nat → Prop} {g : Nat} {f : Fs} (h : LawAt w0 W S g f) (hl : f.l.length ≤ 1000) (a : Int) :
    Calls Try.prog 14 #[.pointer (some ⟨g, 0, none⟩), .int .i64 a] W fun e W' => e = .returned (.tuple #[.int .u32 ((mcopy f a).1.1 : Int), .int .i64 (mcopy f a).1.2]) ∧ ∃ S', LawAt w0 W' S' g (mcopy f a).2 ∧ Turn S S' W W' :=
  (copy_any S g f.n f.l a W h.1 hl).mono fun _ _ ⟨he, S', hf, ht⟩ => ⟨he, S', h.turn hf ht, ht⟩
theorem take_law {w0 W : World} {S : Nat → Prop} {g : Nat} {f : Fs} (h : LawAt w0 W S g f) (hl : f.l.length ≤ 1000) (a : Int) :
    Calls Try.prog 17 #[.pointer (some ⟨g, 0, none⟩), .int .i64 a] W fun e W' => e = .returned (.tuple #[.agg #[.int .u32 ((mtake f a).1.1.id : Int), .int .i64 (mtake f a).1.1.to, .string (mtake f a).1.1.s], .int .i64 (mtake f a).1.2]) ∧ ∃ S', LawAt w0 W' S' g (mtake f a).2 ∧ Turn S S' W W' :=
  (take_any S g f.n f.l a W h.1 hl).mono fun _ _ ⟨he, S', hf, ht⟩ => ⟨he, S', h.turn hf ht, ht⟩
theorem drop_law {w0 W : World} {S : Nat → Prop} {g : Nat} {f : Fs} (h : LawAt w0 W S g f) (hl : f.l.length ≤ 1000) (a : Int) :
    Calls Try.prog 16 #[.pointer (some ⟨g, 0, none⟩), .int .i64 a] W fun e W' => e = .returned (.int .i64 (mtake f a).1.2) ∧ ∃ S', LawAt w0 W' S' g (mtake f a).2 ∧ Turn S S' W W' :=
  (drop_any S g f.n f.l a W h.1 hl).mono fun _ _ ⟨he, S', hf, ht⟩ => ⟨he, S', h.turn hf ht, ht⟩
theorem hurt_law {w0 W : World} {S : Nat → Prop} {g : Nat} {f : Fs} (h : LawAt w0 W S g f) (a bit : Int) (mask : Nat) (hs : ∀ x ∈ f.l, x.s.size ≤ 140737488355328) (hm : mask < 4294967296) (hb1 : -9223372036854775808 ≤ bit) (hb2 : bit ≤ 9223372036854775807) :
    Calls Try.prog 20 #[.pointer (some ⟨g, 0, none⟩), .int .i64 a, .int .i64 bit, .int .u32 (mask : Int)] W fun e W' => e = .returned (.int .i64 (mhurt f a bit mask).1) ∧ LawAt w0 W' S g (mhurt f a bit mask).2 ∧ Turn S S W W' :=
  (hurt_any S g f.n f.l a bit mask W h.1 hs hm hb1 hb2).mono fun _ _ ⟨he, hf, ht⟩ => ⟨he, h.turn hf ht, ht⟩
theorem oldest_law {w0 W : World} {S : Nat → Prop} {g : Nat} {f : Fs} (h : LawAt w0 W S g f) (hl : f.l.length ≤ 1000) (to : Int) :
    Calls Try.prog 19 #[.pointer (some ⟨g, 0, none⟩), .int .i64 to] W fun e W' => e = .returned (.int .i64 (mold f.l to)) ∧ LawAt w0 W' S g f ∧ Below W.heap.size W W' :=
  (oldest_any S g f.n f.l to W h.1 (by omega)).mono fun _ _ ⟨he, hb⟩ => ⟨he, h.below hb, hb⟩
theorem all_law {w0 W : World} {S : Nat → Prop} {g : Nat} {f : Fs} (h : LawAt w0 W S g f) (hl : f.l.length ≤ 1000) :
    Calls Try.prog 13 #[.pointer (some ⟨g, 0, none⟩)] W fun e W' => ∃ A c, e = .returned (.slice A f.l.length c) ∧ Row W' 35 3 (.slice A f.l.length c) f.l.length (cellsNs f.l) ∧ (∀ k, (Value.slice A f.l.length c).ownBlock = some k → W.heap.size ≤ k) ∧ LawAt w0 W' S g f ∧ Below W.heap.size W W' :=
  (all_any S g f.n f.l W h.1 (by omega)).mono fun _ _ ⟨v, he, hr, ho, hb⟩ => by
    obtain ⟨A, c, rfl, _, _⟩ := hr.form
    exact ⟨A, c, he, hr, ho, h.below hb, hb⟩
theorem new_law {w0 W : World} (h0 : Below w0.heap.size w0 W) :
    Calls Try.prog 11 #[] W fun e W' => e = .returned (.pointer (some ⟨W.heap.size, 0, none⟩)) ∧ LawAt w0 W' (fun k => k = W.heap.size) W.heap.size ⟨0, []⟩ ∧ Below W.heap.size W W' :=
  (new_any W).mono fun _ _ ⟨he, hf, hb⟩ => ⟨he, .start2 hf hb h0, hb⟩

def sX : ByteArray := ⟨#[120]⟩
theorem sh1 : msend ⟨0, []⟩ 3 sX = ((1, 0), ⟨1, [⟨1, 3, sX⟩]⟩) := rfl
theorem sh2 : mcopy ⟨1, [⟨1, 3, sX⟩]⟩ 0 = ((2, 0), ⟨2, [⟨1, 3, sX⟩, ⟨2, 3, sX⟩]⟩) := rfl
theorem sh3 : mtake ⟨2, [⟨1, 3, sX⟩, ⟨2, 3, sX⟩]⟩ 1 = ((⟨2, 3, sX⟩, 0), ⟨2, [⟨1, 3, sX⟩]⟩) := rfl
theorem sh4 : mtake ⟨2, [⟨1, 3, sX⟩]⟩ 1 = ((nt0, 2), ⟨2, [⟨1, 3, sX⟩]⟩) := rfl

set_option maxRecDepth 100000 in
set_option maxHeartbeats 1000000 in
theorem shown_any (w : World) :
    Calls Try.prog 10 #[] w fun e w' => e = .returned (.bool true) ∧ Below w.heap.size w w' := by
  go_enter Try.func10, Try.ntmps10
  go_wp2_with fail
  refine (new_law (Below.refl _ w)).mono ?_
  rintro e W1 ⟨rfl, h1, _⟩
  generalize w.heap.size = g at h1 ⊢
  go_wp2_with fail
  have c1 := send_law h1 (by simp) 3 sX
  rw [sh1] at c1
  refine c1.mono ?_
  rintro e W2 ⟨rfl, S2, h2, _⟩
  go_wp2_with fail
  have c2 := copy_law h2 (by simp) 0
  rw [sh2] at c2
  refine c2.mono ?_
  rintro e W3 ⟨rfl, S3, h3, _⟩
  go_wp2_with fail
  have c3 := take_law h3 (by simp) 1
  rw [sh3] at c3
  refine c3.mono ?_
  rintro e W4 ⟨rfl, S4, h4, _⟩
  go_wp2_with fail
  have c4 := take_law (h4.alloc (.cells #[.int .u32 2, .int .i64 3, .string sX] 35)) (by simp) 1
  rw [sh4] at c4
  refine c4.mono ?_
  dsimp only [nt0]
  rintro e W5 ⟨rfl, S5, h5, t5⟩
  have hB := (t5.block W4.heap.size (by simp) (fun h => by have := h4.1.lt _ h; omega)).trans (World.alloc_heap_new W4 _)
  have q0 : W5.cell? ⟨W4.heap.size, 0, none⟩ = some (.int .u32 2) := cell_row hB 0
  have q1 : W5.cell? ⟨W4.heap.size, 1, none⟩ = some (.int .i64 3) := cell_row hB 1
  have q2 : W5.cell? ⟨W4.heap.size, 2, none⟩ = some (.string sX) := cell_row hB 2
  have hlt := obj_lt hB
  have HF := Lib.hid (h5.alloc (.cells #[.int .u32 0, .int .i64 0, .string ⟨#[]⟩] 35)).2.1
  have hsx : sX.toList = [120] := by rw [toList_bl]; rfl
  clear hB t5 h5 h4 h3 h2 h1 c1 c2 c3 c4
  go_wp2
  go_ret
  exact ⟨rfl, HF.out⟩

set_option maxRecDepth 100000 in
set_option maxHeartbeats 2000000 in
theorem flightFull_walk (n : Int) (hn1 : -9223372036854775808 ≤ n) (hn2 : n ≤ 9223372036854775807) (w : World) :
    Calls Try.prog 3 #[.int .i64 n] w fun e w' => e = .returned (.bool true) ∧ Below w.heap.size w w' := by
  by_cases hlo : n < 990
  · go_enter Try.func3, Try.ntmps3
    go_wp2_with (go_at_call 10; refine (shown_any _).mono ?_; rintro e W1 ⟨rfl, h1⟩)
    go_ret
    exact ⟨rfl, h1⟩
  by_cases hhi : 1010 < n
  · go_enter Try.func3, Try.ntmps3
    go_wp2_with (go_at_call 10; refine (shown_any _).mono ?_; rintro e W1 ⟨rfl, h1⟩)
    go_ret
    exact ⟨rfl, h1⟩
  obtain ⟨N, rfl⟩ := Int.eq_ofNat_of_zero_le (show 0 ≤ n by omega)
  have hN1 : 990 ≤ N := by omega
  have hN2 : N ≤ 1010 := by omega
  clear hn1 hn2
  go_enter Try.func3, Try.ntmps3
  go_wp2_with (first | (go_at_call 10; refine (shown_any _).mono ?_; rintro e W1 ⟨rfl, h1⟩) | (go_at_call 11; refine (new_law h1).mono ?_; rintro e W2 ⟨rfl, h2, _⟩; generalize W1.heap.size = g at h2 ⊢))
  go_loopw [5, 6] (fun last i wr => ∃ k : Nat, k ≤ N ∧ i = .int .i64 k ∧ last = .int .i64 (eFull k) ∧ ∃ S f, LawAt w wr S g f ∧ f.l.length = min k 1000) (fun _ i _ => N - (intOf i).toNat)
  case atStart => exact ⟨0, by omega, rfl, by rw [eFull_zero], _, _, h2, rfl⟩
  case round =>
    obtain ⟨k, hk, rfl, rfl, S, f, hF, hfl⟩ := hrel
    by_cases hlt : k < N
    · have hs := send_full (s := ⟨#[]⟩) (to := (k : Int) % 16) hfl (by omega) (by omega)
      have c1 := Lib.hid (send_law hF (by omega) ((k : Int) % 16) ⟨#[]⟩)
      clear hF hfl
      generalize msend f ((k : Int) % 16) ⟨#[]⟩ = r at *
      go_wp2_with (go_at_call 12; refine c1.out.mono ?_; rintro e W3 ⟨rfl, S3, h3, _⟩)
      go_roundw
      case rel => exact ⟨k + 1, by omega, by go_num, rfl, S3, r.2, h3, hs.2⟩
      case measure => simp [intOf]; omega
    · obtain rfl : k = N := by omega
      have hcf := copy_full hfl (by omega)
      have c1 := Lib.hid (all_law hF (by omega))
      rw [hfl] at c1
      have HF := Lib.hid hF
      have HL := Lib.hid (show f.l.length ≤ 1000 by omega)
      have hA := eFull_iff k
      have hB := eFull_iff (k + 1)
      have hB' : decide (1000 < ((k + 1 : Nat) : Int)) = decide (1000 ≤ (k : Int)) := by congr 1; simp; omega
      rw [hB'] at hB
      clear hF hfl hB'
      generalize eFull k = ek at *
      generalize eFull (k + 1) = ek1 at *
      go_wp2_with (first
        | (go_at_call 13; refine c1.out.mono ?_; rintro e W3 ⟨A, c, rfl, _, _, h3, _⟩)
        | (go_at_call 14; have c2 := copy_law h3 HL.out 0; rw [hcf] at c2; refine c2.mono ?_; rintro e W4 ⟨rfl, S4, h4, _⟩))
      all_goals first
        | (exfalso; omega)
        | (go_ret; exact ⟨rfl, h4.2.1⟩)
end Go.Proofs.Ytlfbmicpaacbnaa
