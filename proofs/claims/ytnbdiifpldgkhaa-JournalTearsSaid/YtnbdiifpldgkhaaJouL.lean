/-
  The laws on journals, walked: reads, appends. Conditions: arguments are as the row reads them.
-/
import Derived.Test.YtnbdiifpldgkhaaJouE
import Derived.Test.YtnbdiifpldgkhaaSame
namespace Ros
open Go Go.RowKit
/-- The first k bytes. -/
def cutB (k : Nat) (s : ByteArray) : ByteArray := s.extract 0 (min s.size k)
theorem cutB_size (k : Nat) (s : ByteArray) : (cutB k s).size ≤ k := by
  unfold cutB; rw [size_bl, bl_extract0, List.length_take]; omega
theorem cutB_long (k : Nat) (s : ByteArray) (h : k < s.size) : cutB k s = s.extract 0 k := by unfold cutB; rw [Nat.min_eq_right (by omega)]
theorem cutB_short (k : Nat) (s : ByteArray) (h : s.size ≤ k) : cutB k s = s := by
  unfold cutB; rw [Nat.min_eq_left h]
  apply bl_inj
  rw [bl_extract0, size_bl, List.take_length]
theorem bl_cutB (k : Nat) (s : ByteArray) : bl (cutB k s) = (bl s).take k := by
  unfold cutB; rw [bl_extract0]
  by_cases h : s.size ≤ k
  · rw [Nat.min_eq_left h, size_bl, List.take_length, List.take_of_length_le (by rw [← size_bl]; exact h)]
  · rw [Nat.min_eq_right (by omega)]
end Ros
namespace Go.Proofs.Ytnbdiifpldgkhaa
open Go.RowKit Go.Shelf Ros
attribute [local go_sem] Oper.semAt_some

theorem same_any (A B : Option Addr) (ca cb : Nat) (l m : List (List UInt8)) (w : World) (ha : ArgAt w 1 A l.length (cellsS l)) (hb : ArgAt w 1 B m.length (cellsS m)) (hl : l.length ≤ maxLen) (hm : m.length ≤ maxLen) :
    Calls Try.prog 13 #[.slice A l.length ca, .slice B m.length cb] w fun e w' => e = .returned (.bool (decide (l = m))) ∧ Below w.heap.size w w' := by
  have h := strSame_any A B ca cb (l.map str) (m.map str) w (by rw [List.length_map, ← cellsS_map]; exact ha) (by rw [List.length_map, ← cellsS_map]; exact hb) (by rw [List.length_map]; exact hl) (by rw [List.length_map]; exact hm)
  rw [List.length_map, List.length_map] at h
  rwa [decide_eq_decide.2 (map_str_eq l m)] at h

set_option maxHeartbeats 400000 in
theorem cut_any (s : ByteArray) (w : World) (hs : s.size ≤ maxLen) :
    Calls Try.prog 15 #[.string s] w fun e w' => e = .returned (.string (cutB 6000 s)) ∧ w = w' := by
  unfold maxLen at hs
  go_enter Try.func15, Try.ntmps15
  by_cases h : 6000 < s.size
  · have HE := Lib.hid (cutB_long 6000 s h)
    have h' : ¬ (s.size : Int) ≤ 6000 := by omega
    go_wp2
    go_ret
    exact ⟨by rw [HE.out]; rfl, rfl⟩
  · have HE := Lib.hid (cutB_short 6000 s (by omega))
    have h' : (s.size : Int) ≤ 6000 := by omega
    go_wp2
    go_ret
    exact ⟨by rw [HE.out]; rfl, rfl⟩

theorem rec_a : str (recL (bl ⟨#[97]⟩)) = ⟨#[52, 1, 0, 0, 0, 97] ++ (toB 4 (sum [52, 1, 0, 0, 0, 97])).toArray⟩ := by
  rw [recL_def, seal4]; rfl
theorem read_a : readL (bl (str (recL (bl ⟨#[97]⟩)))) = ([[97]], 10) := by
  have h := read_recs' [[97]] (by simp)
  rw [recs_one] at h
  rw [bl_str, show bl ⟨#[97]⟩ = [97] from rfl, h, recL_length]; rfl

set_option maxHeartbeats 400000 in
theorem shown_any (w : World) :
    Calls Try.prog 10 #[] w fun e w' => e = .returned (.bool true) ∧ Below w.heap.size w w' := by
  have hz : (str (recL (bl ⟨#[97]⟩))).size = 10 := by rw [size_str, recL_length]; rfl
  have hx : (str (recL (bl ⟨#[97]⟩))).extract 0 6 = ⟨#[52, 1, 0, 0, 0, 97]⟩ := by
    apply bl_inj; rw [bl_extract0, bl_str, recL_def, seal4]; rfl
  have hsl := sl_h (P := Try.prog) Try.underlying9 (str (recL (bl ⟨#[97]⟩))) 6 (by omega) 6 rfl
  rw [hx] at hsl
  have HR := Lib.hid (fun W : World => record_yes ⟨#[97]⟩ W (by decide))
  have HD := Lib.hid (fun W : World => read_any (str (recL (bl ⟨#[97]⟩))) W (by omega))
  rw [read_a] at HD
  have h97 : ((str [97]).toList == [97]) = true := by rw [toList_bl]; rfl
  clear hx
  generalize str (recL (bl ⟨#[97]⟩)) = r at *
  go_enter Try.func10, Try.ntmps10
  go_wp2_with (first
    | (go_at_call 16; refine (HR.out _).mono ?_; rintro e w1 ⟨rfl, b1⟩)
    | (go_at_call 12; refine (HD.out _).mono ?_; rintro e w2 ⟨A, c, rfl, r2, b2⟩; obtain ⟨g, cap, hv, _, _, hg, hcs, _⟩ := r2.some_ (by decide); cases hv; have hc0 := hcs 0 _ rfl; clear hcs))
  go_ret
  exact ⟨rfl, bt b1 b2⟩

set_option maxRecDepth 100000 in
set_option maxHeartbeats 1000000 in
theorem journalReads_walk (s : ByteArray) (hs : s.size ≤ maxLen) (w : World) :
    Calls Try.prog 5 #[.string s] w fun e w' => e = .returned (.bool true) ∧ Below w.heap.size w w' := by
  have hz := cutB_size 6000 s
  have HC := Lib.hid (fun W : World => cut_any s W hs)
  generalize cutB 6000 s = c at *
  have HA := Lib.hid (fun W : World => record_all c W (by unfold maxLen; omega))
  have HB := Lib.hid (fun W : World => refrecord_all c W (by unfold maxLen; omega))
  have HD := Lib.hid (fun W : World => read_any c W (by omega))
  have HE := Lib.hid (fun W : World => refread_any c W (by omega))
  have HF := Lib.hid (fun W : World => whole_any c W (by omega))
  have HG := Lib.hid (fun W : World => refwhole_any c W (by omega))
  have HH := Lib.hid (fun W : World => repair_any c W (by omega))
  have HI := Lib.hid (fun W : World => refrepair_any c W (by omega))
  have hl := (read_len (bl c)).2
  rw [← size_bl] at hl
  have HS := Lib.hid (fun (A B : Option Addr) (ca cb : Nat) (W : World) ha hb => same_any A B ca cb (readL (bl c)).1 (readL (bl c)).1 W ha hb (by unfold maxLen; omega) (by unfold maxLen; omega))
  simp only [decide_true] at HS
  clear hl
  generalize readL (bl c) = rr at *
  generalize str (recS (bl c)) = r0 at *
  generalize recE (bl c) = e0 at *
  generalize wholeB c = b0 at *
  generalize repS c = p0 at *
  go_enter Try.func5, Try.ntmps5
  go_wp2_with (first
    | (go_at_call 10; refine (shown_any _).mono ?_; rintro e w1 ⟨rfl, b1⟩)
    | (go_at_call 15; refine (HC.out _).mono ?_; rintro e w2 ⟨rfl, rfl⟩)
    | (go_at_call 16; refine (HA.out _).mono ?_; rintro e w2 ⟨rfl, b2⟩)
    | (go_at_call 17; refine (HB.out _).mono ?_; rintro e w3 ⟨rfl, b3⟩)
    | (go_at_call 12; refine (HD.out _).mono ?_; rintro e w4 ⟨A4, c4, rfl, r4, b4⟩)
    | (go_at_call 18; refine (HE.out _).mono ?_; rintro e w5 ⟨A5, c5, rfl, r5, b5⟩)
    | (go_at_call 13; refine (HS.out _ _ _ _ _ ((ArgAt.of_row r4).below b5) (ArgAt.of_row r5)).mono ?_; rintro e w6 ⟨rfl, b6⟩)
    | (go_at_call 19; refine (HF.out _).mono ?_; rintro e w7 ⟨rfl, b7⟩)
    | (go_at_call 20; refine (HG.out _).mono ?_; rintro e w8 ⟨rfl, b8⟩)
    | (go_at_call 14; refine (HH.out _).mono ?_; rintro e w9 ⟨rfl, b9⟩)
    | (go_at_call 21; refine (HI.out _).mono ?_; rintro e w10 ⟨rfl, b10⟩))
  go_ret
  refine ⟨rfl, ?_⟩
  repeat (first | assumption | exact Below.refl _ _ | (apply bt; rotate_left; assumption))

set_option maxRecDepth 100000 in
set_option maxHeartbeats 1000000 in
theorem journalAppends_walk (s d : ByteArray) (keep : Int) (hs : s.size ≤ maxLen) (hd : d.size ≤ maxLen) (w : World) :
    Calls Try.prog 6 #[.string s, .string d, .int .i64 keep] w fun e w' => e = .returned (.bool true) ∧ Below w.heap.size w w' := by
  have hz := cutB_size 6000 s
  have hz2 := cutB_size 6000 d
  have HC := Lib.hid (fun W : World => cut_any s W hs)
  have HC2 := Lib.hid (fun W : World => cut_any d W hd)
  generalize cutB 6000 s = c at *
  generalize cutB 6000 d = c2 at *
  have HA := Lib.hid (fun W : World => append_any c c2 keep W (by omega) (by unfold maxLen; omega))
  have HB := Lib.hid (fun W : World => refappend_any c c2 keep W (by omega) (by unfold maxLen; omega))
  generalize appS c c2 keep = r0 at *
  generalize appE c c2 = e0 at *
  go_enter Try.func6, Try.ntmps6
  go_wp2_with (first
    | (go_at_call 10; refine (shown_any _).mono ?_; rintro e w1 ⟨rfl, b1⟩)
    | (go_at_call 15; ((with_reducible refine (HC.out _).mono ?_); rintro e w2 ⟨rfl, rfl⟩))
    | (go_at_call 15; ((with_reducible refine (HC2.out _).mono ?_); rintro e w2 ⟨rfl, rfl⟩))
    | (go_at_call 22; refine (HA.out _).mono ?_; rintro e w3 ⟨rfl, b3⟩)
    | (go_at_call 23; refine (HB.out _).mono ?_; rintro e w4 ⟨rfl, b4⟩))
  go_ret
  refine ⟨rfl, ?_⟩
  repeat (first | assumption | exact Below.refl _ _ | (apply bt; rotate_left; assumption))
end Go.Proofs.Ytnbdiifpldgkhaa
