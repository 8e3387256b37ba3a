/-
  The laws on journals, walked: JournalFull, JournalBack. Conditions: arguments are as the row reads them.
-/
import Derived.Test.YtcepdmpdabiglaaJouL
import Derived.Deep.DeepCutAuto
import Derived.Deep.DrawnRows
namespace Ros
open Go Go.RowKit
/-- The texts that a law reads: the first forty, their first hundred bytes. -/
def txt (x : ByteArray) : List UInt8 := (bl x).take 100
def txts (l : List ByteArray) : List (List UInt8) := (l.take 40).map txt
def txtsK (l : List ByteArray) (k : Nat) : List (List UInt8) := (l.take k).map txt
theorem txt_len (x : ByteArray) : (txt x).length ≤ 100 := by unfold txt; rw [List.length_take]; omega
theorem txtsK_len (l : List ByteArray) (k : Nat) (hk : k ≤ l.length) : (txtsK l k).length = k := by unfold txtsK; rw [List.length_map, List.length_take, Nat.min_eq_left hk]
theorem txtsK_le (l : List ByteArray) (k : Nat) : ∀ d ∈ txtsK l k, d.length ≤ 100 := by
  intro d hd
  obtain ⟨x, _, rfl⟩ := List.mem_map.1 hd
  exact txt_len x
theorem txtsK_succ (l : List ByteArray) (k : Nat) (hk : k < l.length) : txtsK l (k + 1) = txtsK l k ++ [txt l[k]] := by
  unfold txtsK; rw [← List.take_append_getElem hk, List.map_append]; rfl
theorem txts_of (l : List ByteArray) (k : Nat) (h1 : k ≤ l.length) (h2 : k ≤ 40) (h : ¬ (k < l.length ∧ k < 40)) : txtsK l k = txts l := by
  unfold txtsK txts
  congr 1
  by_cases h3 : k = 40
  · rw [h3]
  · have : k = l.length := by omega
    rw [List.take_of_length_le (by omega), List.take_of_length_le (by omega)]
theorem txts_le (l : List ByteArray) : ∀ d ∈ txts l, d.length ≤ 100 := txtsK_le l 40
theorem txts_len (l : List ByteArray) : (txts l).length ≤ 40 := by unfold txts; rw [List.length_map, List.length_take]; omega
theorem txt_cut (x : ByteArray) : bl (cutB 100 x) = txt x := bl_cutB 100 x
theorem recsK_len (l : List ByteArray) (k : Nat) (hk : k ≤ 40) : (recs (txtsK l k)).length ≤ 4360 := by
  have h := recs_length_le (txtsK l k) 100 (txtsK_le l k)
  have h2 : (txtsK l k).length ≤ 40 := by unfold txtsK; rw [List.length_map, List.length_take]; omega
  have h3 : (txtsK l k).length * (100 + 9) ≤ 40 * (100 + 9) := Nat.mul_le_mul_right _ h2
  omega
theorem recs_len (l : List ByteArray) : (recs (txts l)).length ≤ 4360 := recsK_len l 40 (Nat.le_refl _)
theorem recs_snoc (a : List (List UInt8)) (d : List UInt8) : recs (a ++ [d]) = recs a ++ recL d := by rw [recs_append, recs_one]
theorem whole_recs (ds : List (List UInt8)) (h : ∀ d ∈ ds, d.length ≤ 4096) : wholeB (str (recs ds)) = true := by
  rw [wholeB_iff, bl_str, read_recs' ds h, size_str]
theorem rep_recs (ds : List (List UInt8)) (h : ∀ d ∈ ds, d.length ≤ 4096) : repS (str (recs ds)) = str (recs ds) := by
  rw [repS_def, bl_str, read_recs' ds h]
  apply bl_inj
  rw [bl_extract0, bl_str, List.take_length]
theorem clamp_big {keep : Int} {n : Nat} (h : (n : Int) ≤ keep) (hn : 0 < n) : clampN keep n = n := by
  unfold clampN; rw [if_neg (by omega), if_neg (by omega)]
theorem app_recs (ds : List (List UInt8)) (x : ByteArray) (keep : Int) (h : ∀ d ∈ ds, d.length ≤ 4096) (hx : x.size ≤ 100) (hl : (recs ds).length ≤ 4360) (hk : 109 ≤ keep) :
    appS (str (recs ds)) x keep = str (recs (ds ++ [bl x])) ∧ appE (str (recs ds)) x = 0 := by
  have hy := app_yes keep (whole_recs ds h) (s := str (recs ds)) (d := x) ⟨by omega, by rw [size_str]; omega⟩
  refine ⟨?_, hy.2⟩
  rw [hy.1, clamp_big (by omega) (by omega)]
  apply bl_inj
  rw [bl_append, bl_str, bl_str, bl_extract0, bl_str, recs_snoc, List.take_of_length_le (by rw [recL_length, ← size_bl]; exact Nat.le_refl _)]
end Ros
namespace Go.Proofs.Ytcepdmpdabiglaa
open Go.RowKit Go.Shelf Ros
attribute [local go_sem] Oper.semAt_some
attribute [local go_sem ↓] Go.wp_at_zero Go.wp_at_succ

theorem made_zeros (n : Nat) : madeCells #[Value.int .u8 0] n = cellsOf (List.replicate n 0) := by
  apply Array.ext_getElem?
  intro j
  by_cases hj : j < n
  · simp [madeCells, cellsOf, hj, Nat.mod_one]
  · simp [madeCells, cellsOf, hj]
theorem u8_info : (Try.prog.info? 5).map (fun i => (i.zero, i.size, i.bytes)) = some (some (.int .u8 0), 1, 1) := by kernel_rfl
theorem make_zeros (n : Nat) (hn : n ≤ 1000000) (W : World) :
    (Instr.makeSlice 44 (.int .i64 (n : Int)) (.int .i64 (n : Int))).run Try.prog W = .ok (.slice (some ⟨W.heap.size, 0, none⟩) n n) (W.alloc (.cells (cellsOf (List.replicate n 0)) 5)) := by
  obtain ⟨i0, hi0, hz0, hz1, hz2⟩ := info_parts u8_info
  have h := run_make (P := Try.prog) W 44 5 i0 (.int .u8 0) Try.underlying44 hi0 hz0 .i64 .i64 (n : Int) (n : Int) (by omega) (Int.le_refl _) (by rw [hz2]; omega) (by omega)
  rw [hz1, Nat.mul_one, Int.toNat_natCast, show (Value.int .u8 0).cells = #[Value.int .u8 0] from rfl, made_zeros] at h
  exact h
theorem conv_zeros (n : Nat) (W : World) :
    (convert 44 9 (.slice (some ⟨W.heap.size, 0, none⟩) n n)).run Try.prog (W.alloc (.cells (cellsOf (List.replicate n 0)) 5)) = .ok (.string (str (List.replicate n 0))) (W.alloc (.cells (cellsOf (List.replicate n 0)) 5)) := by
  have h := run_convert_bytes_back (P := Try.prog) (W.alloc (.cells (cellsOf (List.replicate n 0)) 5)) 44 9 5 ⟨W.heap.size, 0, none⟩ n (List.replicate n 0) Try.underlying44 Try.underlying5 Try.underlying9 (cells_new rfl)
  rw [List.length_replicate] at h
  exact h
theorem app_nil_yes (z : ByteArray) (h : z.size ≤ 4096) (keep : Int) : appE ⟨#[]⟩ z = 0 := by
  have hw : wholeB ⟨#[]⟩ = true := by rw [wholeB_iff, show bl ⟨#[]⟩ = [] from rfl, readL_nil]; rfl
  exact (app_yes keep hw ⟨h, by show 0 + (z.size + 9) ≤ 1048576; omega⟩).2
theorem app_nil_no (z : ByteArray) (h : ¬ z.size ≤ 4096) (keep : Int) : appE ⟨#[]⟩ z = 30 := by
  have hw : wholeB ⟨#[]⟩ = true := by rw [wholeB_iff, show bl ⟨#[]⟩ = [] from rfl, readL_nil]; rfl
  exact (app_full keep hw fun e => h e.1).2

theorem open_strs {H : Type} {enc : TypeId × Value → H} {w : World} {base : Nat} {held : Bool} {A : Option Addr} {l c : Nat} {d : DataW H} {p : List MemPlace} (h : DataW.Trod enc Try.prog w base (fun _ => true) held 22 (.slice A l c) d p) :
    ∃ xs : List ByteArray, ArgAt w 1 A l (xs.map Value.string) ∧ (∀ x ∈ xs, x.size ≤ maxLen) ∧ xs.length = l := by
  obtain ⟨xs, h0, h1, h2, _⟩ := open_argS Try.underlying22 Try.underlying9 (by kernel_rfl) h
  exact ⟨xs, h1, h2, h0⟩
end Go.Proofs.Ytcepdmpdabiglaa
