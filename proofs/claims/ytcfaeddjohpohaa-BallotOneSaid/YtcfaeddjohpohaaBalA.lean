/-
  What the functions of ballot and of its reference compute, one by one: right, promising, voting. Conditions: strings are at most as long as Go allows.
-/
import Derived.Test.YtcfaeddjohpohaaChecked
import Derived.Test.YtcfaeddjohpohaaBalM
import Derived.Test.YtcfaeddjohpohaaObj
import Derived.Test.YtcfaeddjohpohaaIter
import Derived.Test.YtcfaeddjohpohaaBox
import Derived.Laws.ResultCell
import Derived.Laws.StructEq
import Derived.Lib.Hide
import Derived.WalkMore
namespace Ros
open Go Go.RowKit
theorem empty_of {s : ByteArray} (h : s.size = 0) : s.toList = [] ∧ (s.toList.isEmpty = true) ∧ s = ⟨#[]⟩ := by
  have h1 : bl s = [] := List.eq_nil_of_length_eq_zero (by rw [← size_bl]; exact h)
  exact ⟨by rw [toList_bl, h1], by rw [toList_bl, h1]; rfl, bl_inj h1⟩
theorem nonempty_of {s : ByteArray} (h : s.size ≠ 0) : (s.toList == []) = false ∧ (s.toList.isEmpty = false) ∧ s.toList ≠ [] := by
  have h1 : s.toList ≠ [] := by
    rw [toList_bl]; intro e; apply h; rw [size_bl, e]; rfl
  exact ⟨by simpa using h1, by simpa using h1, h1⟩
end Ros
namespace Go.Proofs.Ytcfaeddjohpohaa
open Go.RowKit Go.Shelf Ros
attribute [local go_sem] Oper.semAt_some

theorem vote_info : (Try.prog.info? 24).map (fun i => (i.zero, i.size, i.bytes)) = some (some (.agg #[.int .u64 0, .int .u64 0, .string ⟨#[]⟩]), 3, 32) := by kernel_rfl

theorem load_vote (w : World) (b : Nat) (x : Vt) (h : w.heap[b]? = some (.cells #[.int .u64 (x.p : Int), .int .u64 (x.b : Int), .string x.s] 24 (0, 0))) :
    (loadVar 24 ⟨b, 0, none⟩).run Try.prog w = .ok (.agg #[.int .u64 (x.p : Int), .int .u64 (x.b : Int), .string x.s]) w := by
  have h0 : w.cell? ⟨b, 0, none⟩ = some (.int .u64 (x.p : Int)) := cell_row h 0
  have h1 : w.cell? ⟨b, 1, none⟩ = some (.int .u64 (x.b : Int)) := cell_row h 1
  have h2 : w.cell? ⟨b, 2, none⟩ = some (.string x.s) := cell_row h 2
  clear h
  simp only [go_sem, *]
  go_simp

set_option maxHeartbeats 400000 in
theorem fits_any (b : Nat) (s : ByteArray) (w : World) (hc : w.cell? ⟨b, 0, none⟩ = some (.string s)) (hs : s.size ≤ maxLen) :
    Calls Try.prog 25 #[.slice (some ⟨b, 0, none⟩) 1 1] w fun e w' => e = .returned (.bool (decide (s.size ≤ 4000))) ∧ w = w' := by
  unfold maxLen at hs
  by_cases h : s.size ≤ 4000
  · go_enter Try.func25, Try.ntmps25
    go_wp2
    go_loop [7] (fun i => ∃ k : Nat, k ≤ 1 ∧ i = .int .i64 k) (fun i => 1 - (intOf i).toNat)
    case atStart => exact ⟨0, by omega, rfl⟩
    case round =>
      obtain ⟨k, hk, rfl⟩ := hrel
      by_cases hlt : k < 1
      · obtain rfl : k = 0 := by omega
        go_wp2
        go_round
        case rel => exact ⟨1, by omega, by go_num⟩
        case measure => simp [intOf]; try omega
      · obtain rfl : k = 1 := by omega
        go_wp2
        go_ret
        exact ⟨by simp, rfl⟩
  · go_enter Try.func25, Try.ntmps25
    go_wp2
    go_loop [7] (fun i => i = .int .i64 0) (fun i => 1)
    case atStart => exact rfl
    case round =>
      subst hrel
      go_wp2
      go_ret
      exact ⟨by simp, rfl⟩

set_option maxHeartbeats 400000 in
theorem right_any (v : Vt) (w : World) (hv : v.ok) :
    Calls Try.prog 16 #[.agg #[.int .u64 (v.p : Int), .int .u64 (v.b : Int), .string v.s]] w fun e w' => e = .returned (.bool (rightB v)) ∧ Below w.heap.size w w' := by
  obtain ⟨hv1, hv2, hv3⟩ := hv
  have HR : Hid (_) := Lib.hid (rightB_iff v)
  have HB := Lib.hid ((Below.refl _ w).alloc (Nat.le_refl _) (.cells #[.int .u64 (v.p : Int), .int .u64 (v.b : Int), .string v.s] 24))
  generalize rightB v = r at *
  by_cases h0 : v.b = 0
  · have hq : ((v.b : Int) == 0) = true := by simp [h0]
    by_cases hs : v.s.size = 0
    · have HE := Lib.hid (show r = true from (HR.out.2 ⟨by omega, .inr hs, by omega⟩))
      obtain ⟨s1, s2, s3⟩ := empty_of hs
      have hle : v.b ≤ v.p := by omega
      have HS := Lib.hid hs
      have H0 := Lib.hid h0
      clear hs h0 s1 s3
      go_enter Try.func16, Try.ntmps16
      go_wp2_with (go_at_call 25; refine (fits_any _ v.s _ (cell_row (new2 w _ _) 0) (by unfold maxLen; omega)).mono ?_; rintro e w1 ⟨rfl, rfl⟩)
      go_ret
      exact ⟨by rw [HE.out, HS.out]; rfl, HB.out.alloc (by simp) _⟩
    · have HE := Lib.hid (show r = false from by rw [Bool.eq_false_iff]; intro e; have := HR.out.1 e; omega)
      obtain ⟨s1, s2, s3⟩ := nonempty_of hs
      clear hs h0 s3
      go_enter Try.func16, Try.ntmps16
      go_wp2
      go_ret
      exact ⟨by rw [HE.out]; rfl, HB.out⟩
  · have hq : ((v.b : Int) == 0) = false := by simp; omega
    by_cases hle : v.b ≤ v.p
    · have HE := Lib.hid (show r = decide (v.s.size ≤ 4000) from by
        rw [Bool.eq_iff_iff, HR.out, decide_eq_true_iff]; exact ⟨fun h => h.2.2, fun h => ⟨hle, .inl (by omega), h⟩⟩)
      go_enter Try.func16, Try.ntmps16
      go_wp2_with (go_at_call 25; refine (fits_any _ v.s _ (cell_row (new2 w _ _) 0) (by unfold maxLen; omega)).mono ?_; rintro e w1 ⟨rfl, rfl⟩)
      go_ret
      exact ⟨by rw [HE.out]; rfl, HB.out.alloc (by simp) _⟩
    · have HE := Lib.hid (show r = false from by rw [Bool.eq_false_iff]; intro e; have := HR.out.1 e; omega)
      go_enter Try.func16, Try.ntmps16
      go_wp2
      go_ret
      exact ⟨by rw [HE.out]; rfl, HB.out⟩

set_option maxHeartbeats 400000 in
theorem refright_any (v : Vt) (w : World) (hv : v.ok) :
    Calls Try.prog 17 #[.agg #[.int .u64 (v.p : Int), .int .u64 (v.b : Int), .string v.s]] w fun e w' => e = .returned (.bool (rightB v)) ∧ Below w.heap.size w w' := by
  obtain ⟨hv1, hv2, hv3⟩ := hv
  have HR : Hid (_) := Lib.hid (rightB_iff v)
  have HB := Lib.hid ((Below.refl _ w).alloc (Nat.le_refl _) (.cells #[.int .u64 (v.p : Int), .int .u64 (v.b : Int), .string v.s] 24))
  generalize rightB v = r at *
  by_cases hle : v.b ≤ v.p
  · by_cases h0 : 0 < v.b
    · have HE := Lib.hid (show r = decide (v.s.size ≤ 4000) from by
        rw [Bool.eq_iff_iff, HR.out, decide_eq_true_iff]; exact ⟨fun h => h.2.2, fun h => ⟨hle, .inl h0, h⟩⟩)
      go_enter Try.func17, Try.ntmps17
      go_wp2
      go_ret
      exact ⟨by rw [HE.out]; simp; omega, HB.out⟩
    · by_cases hs : v.s.size = 0
      · have HE := Lib.hid (show r = true from (HR.out.2 ⟨by omega, .inr hs, by omega⟩))
        obtain ⟨s1, s2, s3⟩ := empty_of hs
        have HS := Lib.hid hs
        clear hs s1 s3
        go_enter Try.func17, Try.ntmps17
        go_wp2
        go_ret
        exact ⟨by rw [HE.out]; simp [HS.out], HB.out⟩
      · have HE := Lib.hid (show r = false from by rw [Bool.eq_false_iff]; intro e; have := HR.out.1 e; omega)
        obtain ⟨s1, s2, s3⟩ := nonempty_of hs
        clear hs s3
        go_enter Try.func17, Try.ntmps17
        go_wp2
        go_ret
        exact ⟨by rw [HE.out]; rfl, HB.out⟩
  · have HE := Lib.hid (show r = false from by rw [Bool.eq_false_iff]; intro e; have := HR.out.1 e; omega)
    go_enter Try.func17, Try.ntmps17
    go_wp2
    go_ret
    exact ⟨by rw [HE.out]; rfl, HB.out⟩

end Go.Proofs.Ytcfaeddjohpohaa
