/-
  The laws of ballot, walked: what stands in all of them; BallotVotes, BallotNexts. Conditions: none but the arguments' own.
-/
import Derived.Test.YtcfaeddjohpohaaBalG
import Derived.Test.YtcfaeddjohpohaaBalH
namespace Ros
open Go Go.RowKit
theorem bt' {a b c : World} (h : Below a.heap.size a b) (k : Below b.heap.size b c) : Below a.heap.size a c := h.trans (k.mono h.size)
/-- A value's first bytes. -/
def cutV (k : Nat) (s : ByteArray) : ByteArray := s.extract 0 (min s.size k)
theorem cutV_size (k : Nat) (s : ByteArray) : (cutV k s).size ≤ k ∧ (cutV k s).size ≤ s.size := by unfold cutV; rw [ByteArray.size_extract]; omega
theorem cutV_long (k : Nat) (s : ByteArray) (h : k < s.size) : cutV k s = s.extract 0 k := by unfold cutV; rw [Nat.min_eq_right (by omega)]
theorem cutV_short (k : Nat) (s : ByteArray) (h : s.size ≤ k) : cutV k s = s := by
  unfold cutV; rw [Nat.min_eq_left h]
  apply bl_inj; rw [bl_extract0, size_bl, List.take_length]
theorem arg_block {w : World} {g size n : Nat} {cs : Array Value} {t : TypeId} {fz : Nat × Nat} (h : w.heap[g]? = some (.cells cs t fz)) (hl : cs.toList.length = n * size) : ArgAt w size (some ⟨g, 0, none⟩) n cs.toList :=
  ⟨hl, fun _ => ⟨_, rfl, obj_lt h, fun j u hu => by rw [addr_add, Nat.zero_add, cell_row h]; simpa using hu⟩⟩
def sx : ByteArray := ⟨#[120]⟩
def sy : ByteArray := ⟨#[121]⟩
theorem sp1 : mprom vt0 17 = (⟨17, 0, ⟨#[]⟩⟩, 0) := mprom_yes ⟨right_vt0, by omega⟩ (by show 0 < 17; omega)
theorem r17 : rightB ⟨17, 0, ⟨#[]⟩⟩ = true := (rightB_iff _).2 ⟨by simp only []; omega, .inr rfl, by simp only []; decide⟩
theorem sp2 : mcast ⟨17, 0, ⟨#[]⟩⟩ 16 sx = (vt0, 80) := mcast_low ⟨r17, by omega, by decide⟩ (by simp only []; omega)
theorem sp3 : mcast ⟨17, 0, ⟨#[]⟩⟩ 17 sy = (⟨17, 17, sy⟩, 0) := mcast_yes ⟨r17, by omega, by decide⟩ (by simp only []; omega)
theorem sp4 : mdec [⟨17, 17, sy⟩, ⟨17, 17, sy⟩, vt0] = ((sy, true), 0) := by
  have hr : rightB ⟨17, 17, sy⟩ = true := right_cast (by omega) (by decide)
  refine mdec_maj (v := ⟨17, 17, sy⟩) (by simp) (by simp) (by simp [hr, right_vt0]) (by simp) ?_
  rw [majB_iff]
  refine ⟨by simp only []; omega, ?_⟩
  have h0 : cntV 17 sy [vt0] = 0 := by simp [cntV, vt0]
  have : cntV 17 sy [⟨17, 17, sy⟩, ⟨17, 17, sy⟩, vt0] = 2 := by
    unfold cntV at h0 ⊢
    rw [List.countP_cons, List.countP_cons, h0]; simp
  simp only [this]; simp
end Ros
namespace Go.Proofs.Ytcfaeddjohpohaa
open Go.RowKit Go.Shelf Ros
attribute [local go_sem] Oper.semAt_some
set_option linter.unusedVariables false

set_option maxHeartbeats 400000 in
theorem cut_any (s : ByteArray) (w : World) (hs : s.size ≤ maxLen) :
    Calls Try.prog 11 #[.string s] w fun e w' => e = .returned (.string (cutV 4100 s)) ∧ w = w' := by
  unfold maxLen at hs
  go_enter Try.func11, Try.ntmps11
  go_wp2
  · go_ret
    exact ⟨by rw [cutV_long _ _ (by omega)]; rfl, rfl⟩
  · go_ret
    exact ⟨by rw [cutV_short _ _ (by omega)]; rfl, rfl⟩

set_option maxRecDepth 100000 in
set_option maxHeartbeats 1000000 in
theorem shown_any (w : World) :
    Calls Try.prog 10 #[] w fun e w' => e = .returned (.bool true) ∧ Below w.heap.size w w' := by
  go_enter Try.func10, Try.ntmps10
  go_wp2_with fail
  have c1 := prom_any vt0 17 w vt0_ok (by omega)
  rw [sp1] at c1
  refine c1.mono ?_
  clear c1
  rintro e w1 ⟨rfl, b1⟩
  go_wp2_with fail
  have c2 := cast_any ⟨17, 0, ⟨#[]⟩⟩ 16 sx (w1.alloc (.cells #[.int .u64 17, .int .u64 0, .string ⟨#[]⟩] 24)) ⟨by simp only []; omega, by simp only []; omega, by decide⟩ (by omega) (by decide)
  rw [sp2] at c2
  refine c2.mono ?_
  clear c2
  dsimp only [vt0]
  rintro e w2 ⟨rfl, b2⟩
  have x2 := boxes1 b2
  have B2 := Lib.hid (bt' b1 (below1 b2))
  obtain ⟨p0, p1, p2, f0, f1, f2, z0⟩ := cells3 x2
  have z0' := Nat.lt_succ_of_lt z0
  rw [Nat.succ_eq_add_one] at z0'
  have X2 := Lib.hid x2
  clear b1 b2 x2
  go_wp2_with fail
  have c3 := cast_any ⟨17, 0, ⟨#[]⟩⟩ 17 sy (w2.alloc (.cells #[.int .u64 0, .int .u64 0, .string ⟨#[]⟩] 24)) ⟨by simp only []; omega, by simp only []; omega, by decide⟩ (by omega) (by decide)
  rw [sp3] at c3
  refine c3.mono ?_
  clear c3 p0 p1 p2 f0 f1 f2
  dsimp only
  rintro e w3 ⟨rfl, b3⟩
  have x3 := obj_below (obj_alloc X2.out (.cells #[.int .u64 0, .int .u64 0, .string ⟨#[]⟩] 24)) b3 (by simp; omega)
  have B3 := Lib.hid (bt' B2.out (below1 b3))
  obtain ⟨p0, p1, p2, f0, f1, f2, z1⟩ := cells3 x3
  have z1' := Nat.lt_succ_of_lt z1
  have z1'' := Nat.lt_succ_of_lt z1'
  rw [Nat.succ_eq_add_one] at z1' z1''
  have X3 := Lib.hid x3
  clear b3 x3
  go_wp2_with fail
  have c4 := decided_any (some ⟨w3.heap.size + 1, 0, none⟩) 3 [⟨17, 17, sy⟩, ⟨17, 17, sy⟩, vt0] _ (arg_block (new2 w3 (.cells #[.int .u64 17, .int .u64 17, .string sy] 24) (.cells #[.int .u64 17, .int .u64 17, .string sy, .int .u64 17, .int .u64 17, .string sy, .int .u64 0, .int .u64 0, .string ⟨#[]⟩] 24)) rfl) (by simp [maxLen]) (by
    intro x hx
    simp only [List.mem_cons, List.not_mem_nil, or_false] at hx
    rcases hx with rfl | rfl | rfl
    · exact ⟨by simp only []; omega, by simp only []; omega, by decide⟩
    · exact ⟨by simp only []; omega, by simp only []; omega, by decide⟩
    · exact vt0_ok)
  rw [sp4] at c4
  refine c4.mono ?_
  clear c4 p0 p1 p2 f0 f1 f2
  rintro e w4 ⟨rfl, b4⟩
  have x4 := obj_below (obj_alloc (obj_alloc X3.out (.cells #[.int .u64 17, .int .u64 17, .string sy] 24)) (.cells #[.int .u64 17, .int .u64 17, .string sy, .int .u64 17, .int .u64 17, .string sy, .int .u64 0, .int .u64 0, .string ⟨#[]⟩] 24)) b4 (by simp; omega)
  obtain ⟨p0, p1, p2, f0, f1, f2, z2⟩ := cells3 x4
  have B4 := Lib.hid (bt' B3.out (below2 b4))
  have hsy : sy.toList = [121] := by rw [toList_bl]; rfl
  clear b4 x4
  go_wp2
  go_ret
  exact ⟨rfl, B4.out⟩

set_option maxRecDepth 100000 in
set_option maxHeartbeats 2000000 in
theorem ballotNexts_walk (b : Nat) (node : Int) (hb : b < 18446744073709551616) (hn1 : -9223372036854775808 ≤ node) (hn2 : node ≤ 9223372036854775807) (w : World) :
    Calls Try.prog 6 #[.int .u64 (b : Int), .int .i64 node] w fun e w' => e = .returned (.bool true) ∧ Below w.heap.size w w' := by
  have C1 := Lib.hid (fun w => next_any b node w hb hn1 hn2)
  have C2 := Lib.hid (fun w => refnext_any b node w hb hn1 hn2)
  by_cases h : node < 0 ∨ 16 ≤ node ∨ 1152921504606846976 < b
  · rw [mnext_bad h] at C1 C2
    clear h
    go_enter Try.func6, Try.ntmps6
    go_wp2_with (first
      | (go_at_call 10; refine (shown_any _).mono ?_; rintro e w1 ⟨rfl, b1⟩)
      | (go_at_call 20; refine (C1.out _).mono ?_; rintro e w2 ⟨rfl, rfl⟩)
      | (go_at_call 21; refine (C2.out _).mono ?_; rintro e w2 ⟨rfl, rfl⟩))
    go_ret
    exact ⟨rfl, b1⟩
  · obtain ⟨l1, l2, l3⟩ := mnext_law h
    have h0 : 0 ≤ node := by omega
    have h5 : node < 16 := by omega
    have l4 : ((mnext b node).1 : Int) % 16 = node := by omega
    have h6 : b ≤ 1152921504606846976 := by omega
    have he : (mnext b node).2 = 0 := by rw [mnext_yes h]
    rw [he] at C1 C2
    clear h he l3 hn1 hn2
    generalize (mnext b node).1 = M at *
    have q1 : ((M : Int) % 16 == node) = true := by simpa using l4
    have L4 := Lib.hid l4
    clear l4
    go_enter Try.func6, Try.ntmps6
    go_wp2_with (first
      | (go_at_call 10; refine (shown_any _).mono ?_; rintro e w1 ⟨rfl, b1⟩)
      | (go_at_call 20; refine (C1.out _).mono ?_; rintro e w2 ⟨rfl, rfl⟩)
      | (go_at_call 21; refine (C2.out _).mono ?_; rintro e w2 ⟨rfl, rfl⟩))
    go_ret
    exact ⟨by simp; omega, b1⟩
end Go.Proofs.Ytcfaeddjohpohaa
