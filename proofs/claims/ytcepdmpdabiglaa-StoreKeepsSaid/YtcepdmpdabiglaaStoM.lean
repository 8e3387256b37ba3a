/-
  A store, plain: what writes, snapshots, cuts, recoveries do. Conditions: none.
-/
import Derived.Test.YtcepdmpdabiglaaJouE
namespace Ros
open Go Go.RowKit
/-- What a store holds: its journal's bytes, the snapshot's record, its capacity, whether the next write is cut, behind how many bytes, whether it has crashed. -/
structure St where
  log : List UInt8
  snap : ByteArray
  cap : Int
  cut : Bool
  keep : Nat
  down : Bool
def St.holds (s : St) : Nat := s.log.length + s.snap.size
def stOk (s : St) : Prop := s.log.length ≤ 2000000 ∧ s.snap.size ≤ 2000000 ∧ 64 ≤ s.cap ∧ s.cap ≤ 1048576 ∧ s.keep ≤ 9223372036854775807
/-- The cells of a store, its journal's slice given. -/
def cellsSt (v : Value) (s : St) : Array Value := #[v, .string s.snap, .int .i64 s.cap, .bool s.cut, .int .i64 (s.keep : Int), .bool s.down]
def fitsW (s : St) (d : ByteArray) : Bool := decide (d.size ≤ 4096 ∧ (s.holds : Int) + ((d.size : Int) + 9) ≤ s.cap)
def fitsS (s : St) (d : ByteArray) : Bool := decide (d.size ≤ 4096 ∧ (d.size : Int) + 9 ≤ s.cap)
def swrite (s : St) (d : ByteArray) : Int × St :=
  if s.down = true then (31, s) else if fitsW s d = true then
    (if s.cut = true then (31, { s with log := s.log ++ (recL (bl d)).take (min s.keep (d.size + 9)), cut := false, keep := 0, down := true }) else (0, { s with log := s.log ++ recL (bl d) }))
  else (30, s)
def ssnap (s : St) (d : ByteArray) : Int × St :=
  if s.down = true then (31, s) else if fitsS s d = true then
    (if s.cut = true then (31, if d.size + 9 ≤ s.keep then { s with log := [], snap := str (recL (bl d)), cut := false, keep := 0, down := true } else { s with cut := false, keep := 0, down := true })
     else (0, { s with log := [], snap := str (recL (bl d)) }))
  else (30, s)
def scut (s : St) (k : Int) : Int × St := if s.down = true then (31, s) else if k < 0 then (2, s) else (0, { s with cut := true, keep := k.toNat })
def srec (s : St) : St := { s with log := s.log.take (readL s.log).2, cut := false, keep := 0, down := false }
/-- The snapshot's data. -/
def snapD (b : ByteArray) : ByteArray := match (readL (bl b)).1 with | [] => ⟨#[]⟩ | d :: _ => str d
/-- A store without a cut that has written these records. -/
def St.of (ds : List (List UInt8)) (snap : ByteArray) : St := ⟨recs ds, snap, 1048576, false, 0, false⟩
theorem swrite_of (ds : List (List UInt8)) (snap d : ByteArray) (hd : d.size ≤ 100) (hl : (recs ds).length + snap.size ≤ 1000000) : swrite (St.of ds snap) d = (0, St.of (ds ++ [bl d]) snap) := by
  have hf : fitsW (St.of ds snap) d = true := by
    unfold fitsW St.holds St.of
    simp only [decide_eq_true_eq]
    omega
  unfold swrite
  rw [if_neg (by simp [St.of]), if_pos hf, if_neg (by simp [St.of])]
  simp [St.of, recs_append, recs_one]
theorem swrite_big (ds : List (List UInt8)) (snap d : ByteArray) (hd : 4096 < d.size) : swrite (St.of ds snap) d = (30, St.of ds snap) := by
  have hf : fitsW (St.of ds snap) d = false := by unfold fitsW; rw [decide_eq_false_iff_not]; omega
  unfold swrite
  rw [if_neg (by simp [St.of]), if_neg (by rw [hf]; simp)]
theorem ssnap_of (ds : List (List UInt8)) (snap d : ByteArray) (hd : d.size ≤ 100) : ssnap (St.of ds snap) d = (0, St.of [] (str (recL (bl d)))) := by
  have hf : fitsS (St.of ds snap) d = true := by
    unfold fitsS St.of
    simp only [decide_eq_true_eq]
    omega
  unfold ssnap
  rw [if_neg (by simp [St.of]), if_pos hf, if_neg (by simp [St.of])]
  simp [St.of, recs]
theorem ssnap_big (ds : List (List UInt8)) (snap d : ByteArray) (hd : 4096 < d.size) : ssnap (St.of ds snap) d = (30, St.of ds snap) := by
  have hf : fitsS (St.of ds snap) d = false := by unfold fitsS; rw [decide_eq_false_iff_not]; omega
  unfold ssnap
  rw [if_neg (by simp [St.of]), if_neg (by rw [hf]; simp)]
theorem snapD_rec (d : ByteArray) (hd : d.size ≤ 4096) : snapD (str (recL (bl d))) = d := by
  have h := read_recs' [bl d] (by simp; rw [← size_bl]; exact hd)
  rw [recs_one] at h
  unfold snapD
  rw [bl_str, h]
  exact str_bl d
theorem snapD_none : snapD ⟨#[]⟩ = ⟨#[]⟩ := by
  unfold snapD
  rw [show bl ⟨#[]⟩ = [] from rfl, readL_nil]
theorem srec_recs (s : St) (ds : List (List UInt8)) (h : ∀ d ∈ ds, d.length ≤ 4096) (hs : s.log = recs ds) : srec s = { s with cut := false, keep := 0, down := false } := by
  unfold srec
  rw [hs, read_recs' ds h, List.take_length, ← hs]
end Ros
