/-
  The laws on journals, walked: JournalFull, JournalBack. Conditions: arguments are as the row reads them.
-/
import Derived.Test.YtnbdiifpldgkhaaJouL
import Derived.Deep.DeepCutAuto
import Derived.Deep.DrawnRows
namespace Ros
open Go Go.RowKit
/-- The texts that a law reads: the first forty, their first hundred bytes. -/
def txt (x : ByteArray) : List UInt8 := (bl x).take 100
def txts (l : List ByteArray) : List (List UInt8) := (l.take 40).map txt
def txtsK (l : List ByteArray) (k : Nat) : List (List UInt8) := (l.take k).map txt
theorem txt_len (x : ByteArray) : (txt x).length ≤ 100 := by unfold txt; rw [List.length_take]; omega
theorem txtsK_len (l : List ByteArray) (k : Nat) (hk : k ≤ l.length) : (txtsK l k).length = k := by unfold txtsK; rw [List.length_map, List.length_take, Nat.min_eq_left hk]
theorem txtsK_le (l : List ByteArray) (k : Nat) : ∀ d ∈ txtsK l k, d.length ≤ 100 := by
  intro d hd
  obtain ⟨x, _, rfl⟩ := List.mem_map.1 hd
  exact txt_len x
theorem txtsK_succ (l : List ByteArray) (k : Nat) (hk : k < l.length) : txtsK l (k + 1) = txtsK l k ++ [txt l[k]] := by
  unfold txtsK; rw [← List.take_append_getElem hk, List.map_append]; rfl
theorem txts_of (l : List ByteArray) (k : Nat) (h1 : k ≤ l.length) (h2 : k ≤ 40) (h : ¬ (k < l.length ∧ k < 40)) : txtsK l k = txts l := by
  unfold txtsK txts
  congr 1
  by_cases h3 : k = 40
  · rw [h3]
  · have : k = l.length := by omega
    rw [List.take_of_length_le (by omega), List.take_of_length_le (by omega)]
theorem txts_le (l : List ByteArray) : ∀ d ∈ txts l, d.length ≤ 100 := txtsK_le l 40
theorem txts_len (l : List ByteArray) : (txts l).length ≤ 40 := by unfold txts; rw [List.length_map, List.length_take]; omega
theorem txt_cut (x : ByteArray) : bl (cutB 100 x) = txt x := bl_cutB 100 x
theorem recsK_len (l : List ByteArray) (k : Nat) (hk : k ≤ 40) : (recs (txtsK l k)).length ≤ 4360 := by
  have h := recs_length_le (txtsK l k) 100 (txtsK_le l k)
  have h2 : (txtsK l k).length ≤ 40 := by unfold txtsK; rw [List.length_map, List.length_take]; omega
  have h3 : (txtsK l k).length * (100 + 9) ≤ 40 * (100 + 9) := Nat.mul_le_mul_right _ h2
  omega
theorem recs_len (l : List ByteArray) : (recs (txts l)).length ≤ 4360 := recsK_len l 40 (Nat.le_refl _)
theorem recs_snoc (a : List (List UInt8)) (d : List UInt8) : recs (a ++ [d]) = recs a ++ recL d := by rw [recs_append, recs_one]
theorem whole_recs (ds : List (List UInt8)) (h : ∀ d ∈ ds, d.length ≤ 4096) : wholeB (str (recs ds)) = true := by
  rw [wholeB_iff, bl_str, read_recs' ds h, size_str]
theorem rep_recs (ds : List (List UInt8)) (h : ∀ d ∈ ds, d.length ≤ 4096) : repS (str (recs ds)) = str (recs ds) := by
  rw [repS_def, bl_str, read_recs' ds h]
  apply bl_inj
  rw [bl_extract0, bl_str, List.take_length]
theorem clamp_big {keep : Int} {n : Nat} (h : (n : Int) ≤ keep) (hn : 0 < n) : clampN keep n = n := by
  unfold clampN; rw [if_neg (by omega), if_neg (by omega)]
theorem app_recs (ds : List (List UInt8)) (x : ByteArray) (keep : Int) (h : ∀ d ∈ ds, d.length ≤ 4096) (hx : x.size ≤ 100) (hl : (recs ds).length ≤ 4360) (hk : 109 ≤ keep) :
    appS (str (recs ds)) x keep = str (recs (ds ++ [bl x])) ∧ appE (str (recs ds)) x = 0 := by
  have hy := app_yes keep (whole_recs ds h) (s := str (recs ds)) (d := x) ⟨by omega, by rw [size_str]; omega⟩
  refine ⟨?_, hy.2⟩
  rw [hy.1, clamp_big (by omega) (by omega)]
  apply bl_inj
  rw [bl_append, bl_str, bl_str, bl_extract0, bl_str, recs_snoc, List.take_of_length_le (by rw [recL_length, ← size_bl]; exact Nat.le_refl _)]
end Ros
namespace Go.Proofs.Ytnbdiifpldgkhaa
open Go.RowKit Go.Shelf Ros
attribute [local go_sem] Oper.semAt_some
attribute [local go_sem ↓] Go.wp_at_zero Go.wp_at_succ

set_option maxRecDepth 100000 in
set_option maxHeartbeats 1000000 in
theorem journalBack_walk (A : Option Addr) (n c : Nat) (xs : List ByteArray) (w : World) (ha : ArgAt w 1 A n (xs.map Value.string)) (hx : ∀ x ∈ xs, x.size ≤ maxLen) (hn : xs.length = n) :
    Calls Try.prog 8 #[.slice A n c] w fun e w' => e = .returned (.bool true) ∧ Below w.heap.size w w' := by
  obtain ⟨i0, hi0, hz0, hz1, hz2⟩ := info_parts str_info
  subst hn
  have HA := Lib.hid ha
  clear ha
  go_enter Try.func8, Try.ntmps8
  go_wp2_with (go_at_call 10; refine (shown_any _).mono ?_; rintro e W1 ⟨rfl, h1⟩)
  go_loopw [4, 5, 6] (fun s o i wr => ∃ (k : Nat) (A1 : Option Addr) (c1 : Nat), k ≤ 40 ∧ k ≤ xs.length ∧ i = .int .i64 k ∧ s = .string (str (recs (txtsK xs k))) ∧ o = .slice A1 (txtsK xs k).length c1 ∧
    wr.ownsRow w.heap.size 9 1 (.slice A1 (txtsK xs k).length c1) (txtsK xs k).length (cellsS (txtsK xs k)) ∧ Below w.heap.size w wr) (fun _ _ i _ => 40 - (intOf i).toNat)
  case atStart => exact ⟨0, none, 0, by omega, by omega, rfl, rfl, rfl, World.ownsRow_nil _ _ _ _, h1⟩
  case round =>
    obtain ⟨k, A1, c1, hk, hkn, rfl, rfl, rfl, hrow, hB⟩ := hrel
    by_cases hlt : k < xs.length ∧ k < 40
    · obtain ⟨hl1, hl2⟩ := hlt
      obtain ⟨a, hlx, rfl, _, c0⟩ := (HA.out.below hB).one k hl1
      have hsz := hx xs[k] (List.getElem_mem hl1)
      have hap := app_recs (txtsK xs k) (cutB 100 xs[k]) 1000 (fun d hd => Nat.le_trans (txtsK_le xs k d hd) (by omega)) (cutB_size _ _) (recsK_len xs k hk) (by omega)
      rw [txt_cut, ← txtsK_succ xs k hl1] at hap
      have HP := Lib.hid (fun W : World => append_any (str (recs (txtsK xs k))) (cutB 100 xs[k]) 1000 W (by rw [size_str]; have := recsK_len xs k hk; omega) (Nat.le_trans (cutB_size _ _) (by unfold maxLen; omega)))
      rw [hap.1, hap.2] at HP
      have HC := Lib.hid (cellsS_snoc (txtsK xs k) (txt xs[k]))
      rw [← txtsK_succ xs k hl1] at HC
      have HL := Lib.hid (txtsK_len xs (k + 1) (by omega))
      have HL0 := Lib.hid (txtsK_len xs k (by omega))
      have HT := Lib.hid (show str (txt xs[k]) = cutB 100 xs[k] from by rw [← txt_cut, str_bl])
      rw [HT.out] at HC
      have hle : ∀ x : ByteArray, (x.size : Int) ≤ 100 → cutB 100 x = x := fun x h => cutB_short 100 x (by omega)
      have hgt : ∀ x : ByteArray, ¬ (x.size : Int) ≤ 100 → cutB 100 x = x.extract 0 100 := fun x h => cutB_long 100 x (by omega)
      clear hap HT
      generalize xs[k] = x at *
      unfold maxLen at hsz
      have HR0 := Lib.hid hrow
      have HB0 := Lib.hid hB
      have hm1 : (txtsK xs k).length + 1 ≤ maxLen := by rw [HL0.out]; unfold maxLen; omega
      have hm2 : ((txtsK xs k).length + 1) * 16 ≤ 140737488355328 := by rw [HL0.out]; omega
      clear hrow hB
      go_upto_region 7 with fail
      go_cut [7] (fun v wx => v = .string (cutB 100 x) ∧ wx.ownsRow w.heap.size 9 1 (.slice A1 (txtsK xs k).length c1) (txtsK xs k).length (cellsS (txtsK xs k)) ∧ Below w.heap.size w wx)
      case first =>
        by_cases h100 : (x.size : Int) ≤ 100
        · have HE := Lib.hid (hle x h100)
          clear hle hgt
          go_quiet (fail)
          go_wp2_with fail
          go_meet
          exact ⟨by rw [HE.out], HR0.out, below_dn HB0.out _⟩
        · have HE := Lib.hid (hgt x h100)
          clear hle hgt
          go_quiet (fail)
          go_wp2_with fail
          go_meet
          exact ⟨by rw [HE.out], HR0.out, below_dn HB0.out _⟩
      case rest =>
        obtain ⟨rfl, hr, hb⟩ := hcut
        have HR1 := Lib.hid hr
        have HB1 := Lib.hid hb
        have hB2' : ∀ o : Obj, ∀ W : World, w.heap.size ≤ W.heap.size → w.heap.size ≤ (W.alloc o).heap.size := fun o W h => by rw [World.size_alloc]; omega
        clear hr hb hle hgt HR0 HB0
        have hks : txtsK xs (k + 1) = txtsK xs k ++ [txt x] ∨ True := .inr trivial
        generalize hd2 : txtsK xs (k + 1) = ds2 at *
        have HD2 := Lib.hid hd2
        clear hd2 hks
        generalize cutB 100 x = d at *
        generalize txtsK xs k = ds at *
        generalize hs2 : str (recs ds2) = s2 at *
        have HS2 := Lib.hid hs2
        clear hs2
        go_wp2_with (first
          | (go_at_call 22; refine (HP.out _).mono ?_; rintro e w3 ⟨rfl, b3⟩; have r1 := (owns_below HR1.out b3).alloc (.cells #[.string d] 9); have hl1 := hB2' (.cells #[.string d] 9) w3 (Nat.le_trans HB1.out.size b3.size))
          | (at_builtin; generalize hG : wpList _ _ _ _ _ _ = G))
        subst hG
        refine wpList_append_own _ rfl _ _ 22 rfl w.heap.size 9 i0 (.string ⟨#[]⟩) 1 16 Try.underlying22 hi0 hz0 hz1 hz2 rfl (by decide) _ _ _ rfl r1 ⟨w3.heap.size, 0, none⟩ 1 1 [.string d] rfl rfl (cell_one_new _ _ _) (by simp [Value.oneCell']) hm1 hm2 hl1 ?_
        intro v' w4 hown' hgrow _
        obtain ⟨g', cap', rfl⟩ := ownsRow_succ hown'
        have HB2 := Lib.hid ((bal (bt HB1.out b3) (.cells #[.string d] 9)).grown hgrow hl1 (fun j e => (r1.lt _ e).1))
        rw [← HC.out] at hown'
        have HO' := Lib.hid hown'
        clear hown' hgrow r1 hm1 hm2
        go_wp2
        go_roundw
        case rel => exact ⟨k + 1, some ⟨g', 0, none⟩, cap', by omega, by omega, by go_num, by rw [HD2.out, HS2.out], by rw [HD2.out, HL.out, HL0.out], by rw [HD2.out, HL.out]; have := HO'.out; rw [HL0.out] at this; exact this, HB2.out⟩
        case measure => simp [intOf]; omega
    · have HT := Lib.hid (txts_of xs k hkn hk hlt)
      rw [HT.out] at hrow ⊢
      have h4 : ∀ d ∈ txts xs, d.length ≤ 4096 := fun d hd => Nat.le_trans (txts_le xs d hd) (by omega)
      have hsz : (str (recs (txts xs))).size ≤ 67108864 := by rw [size_str]; have := recs_len xs; omega
      have hlen := txts_len xs
      have HD := Lib.hid (fun W : World => read_any (str (recs (txts xs))) W hsz)
      have HW := Lib.hid (fun W : World => whole_any (str (recs (txts xs))) W hsz)
      have HP := Lib.hid (fun W : World => repair_any (str (recs (txts xs))) W hsz)
      rw [bl_str, read_recs' _ h4] at HD
      rw [whole_recs _ h4] at HW
      rw [rep_recs _ h4] at HP
      have HS := Lib.hid (fun (A B : Option Addr) (ca cb : Nat) (W : World) ha hb => same_any A B ca cb (txts xs) (txts xs) W ha hb (by unfold maxLen; omega) (by unfold maxLen; omega))
      simp only [decide_true] at HS
      have HZ := Lib.hid (size_str (recs (txts xs)))
      have hzz := recs_len xs
      have HR0 := Lib.hid hrow
      have HB0 := Lib.hid hB
      have hbq : (str (recs (txts xs))).size = (recs (txts xs)).length := size_str _
      clear h4 hsz hrow hB HT HZ
      generalize hrl : (recs (txts xs)).length = rl at *
      generalize str (recs (txts xs)) = s at *
      generalize txts xs = ds at *
      go_wp2_with (first
        | (go_at_call 12; refine (HD.out _).mono ?_; rintro e w3 ⟨A3, c3, rfl, r3, b3⟩)
        | (go_at_call 19; refine (HW.out _).mono ?_; rintro e w4 ⟨rfl, b4⟩)
        | (go_at_call 14; refine (HP.out _).mono ?_; rintro e w5 ⟨rfl, b5⟩)
        | (go_at_call 13; refine (HS.out _ _ _ _ _ ((ArgAt.of_row r3).below (bt b4 b5)) ((ArgAt.of_row (row_of_owns HR0.out)).below (bt (bt b3 b4) b5))).mono ?_; rintro e w6 ⟨rfl, b6⟩))
      all_goals
        go_ret
        refine ⟨rfl, bt HB0.out ?_⟩
        repeat (first | assumption | exact Below.refl _ _ | (apply bt; rotate_left; assumption))

theorem made_zeros (n : Nat) : madeCells #[Value.int .u8 0] n = cellsOf (List.replicate n 0) := by
  apply Array.ext_getElem?
  intro j
  by_cases hj : j < n
  · simp [madeCells, cellsOf, hj, Nat.mod_one]
  · simp [madeCells, cellsOf, hj]
theorem u8_info : (Try.prog.info? 5).map (fun i => (i.zero, i.size, i.bytes)) = some (some (.int .u8 0), 1, 1) := by kernel_rfl
theorem make_zeros (n : Nat) (hn : n ≤ 1000000) (W : World) :
    (Instr.makeSlice 37 (.int .i64 (n : Int)) (.int .i64 (n : Int))).run Try.prog W = .ok (.slice (some ⟨W.heap.size, 0, none⟩) n n) (W.alloc (.cells (cellsOf (List.replicate n 0)) 5)) := by
  obtain ⟨i0, hi0, hz0, hz1, hz2⟩ := info_parts u8_info
  have h := run_make (P := Try.prog) W 37 5 i0 (.int .u8 0) Try.underlying37 hi0 hz0 .i64 .i64 (n : Int) (n : Int) (by omega) (Int.le_refl _) (by rw [hz2]; omega) (by omega)
  rw [hz1, Nat.mul_one, Int.toNat_natCast, show (Value.int .u8 0).cells = #[Value.int .u8 0] from rfl, made_zeros] at h
  exact h
theorem conv_zeros (n : Nat) (W : World) :
    (convert 37 9 (.slice (some ⟨W.heap.size, 0, none⟩) n n)).run Try.prog (W.alloc (.cells (cellsOf (List.replicate n 0)) 5)) = .ok (.string (str (List.replicate n 0))) (W.alloc (.cells (cellsOf (List.replicate n 0)) 5)) := by
  have h := run_convert_bytes_back (P := Try.prog) (W.alloc (.cells (cellsOf (List.replicate n 0)) 5)) 37 9 5 ⟨W.heap.size, 0, none⟩ n (List.replicate n 0) Try.underlying37 Try.underlying5 Try.underlying9 (cells_new rfl)
  rw [List.length_replicate] at h
  exact h
theorem app_nil_yes (z : ByteArray) (h : z.size ≤ 4096) (keep : Int) : appE ⟨#[]⟩ z = 0 := by
  have hw : wholeB ⟨#[]⟩ = true := by rw [wholeB_iff, show bl ⟨#[]⟩ = [] from rfl, readL_nil]; rfl
  exact (app_yes keep hw ⟨h, by show 0 + (z.size + 9) ≤ 1048576; omega⟩).2
theorem app_nil_no (z : ByteArray) (h : ¬ z.size ≤ 4096) (keep : Int) : appE ⟨#[]⟩ z = 30 := by
  have hw : wholeB ⟨#[]⟩ = true := by rw [wholeB_iff, show bl ⟨#[]⟩ = [] from rfl, readL_nil]; rfl
  exact (app_full keep hw fun e => h e.1).2

set_option maxRecDepth 100000 in
set_option maxHeartbeats 1000000 in
theorem journalFull_walk (n : Int) (h1 : -9223372036854775808 ≤ n) (h2 : n ≤ 9223372036854775807) (w : World) :
    Calls Try.prog 7 #[.int .i64 n] w fun e w' => e = .returned (.bool true) ∧ Below w.heap.size w w' := by
  by_cases hlo : n < 4090
  · go_enter Try.func7, Try.ntmps7
    go_wp2_with (go_at_call 10; refine (shown_any _).mono ?_; rintro e w1 ⟨rfl, b1⟩)
    go_ret
    exact ⟨rfl, b1⟩
  by_cases hhi : 4100 < n
  · go_enter Try.func7, Try.ntmps7
    go_wp2_with (go_at_call 10; refine (shown_any _).mono ?_; rintro e w1 ⟨rfl, b1⟩)
    go_ret
    exact ⟨rfl, b1⟩
  obtain ⟨m, rfl⟩ := Int.eq_ofNat_of_zero_le (show 0 ≤ n by omega)
  have hmk := make_zeros m (by omega)
  have hcv := conv_zeros m
  have hsz : (str (List.replicate m 0)).size = m := by rw [size_str, List.length_replicate]
  have HP := Lib.hid (fun W : World => append_any ⟨#[]⟩ (str (List.replicate m 0)) 5 W (by decide) (by rw [hsz]; unfold maxLen; omega))
  generalize appS ⟨#[]⟩ (str (List.replicate m 0)) 5 = ap at *
  by_cases hm : m ≤ 4096
  · have HR := Lib.hid (fun W : World => record_yes (str (List.replicate m 0)) W (by rw [hsz]; exact hm))
    rw [app_nil_yes _ (by rw [hsz]; exact hm) 5] at HP
    have hr := rec_size (str (List.replicate m 0))
    rw [hsz] at hr
    have hrq : (((str (recL (bl (str (List.replicate m 0))))).size : Int) == (m : Int) + 9) = true := by rw [hr]; simp
    clear hsz hr
    generalize str (recL (bl (str (List.replicate m 0)))) = r at *
    generalize str (List.replicate m 0) = z at *
    generalize cellsOf (List.replicate m 0) = Z at *
    go_enter Try.func7, Try.ntmps7
    go_wp2_with (first
      | (go_at_call 10; refine (shown_any _).mono ?_; rintro e w1 ⟨rfl, b1⟩)
      | (go_at_call 16; refine (HR.out _).mono ?_; rintro e w2 ⟨rfl, b2⟩)
      | (go_at_call 22; refine (HP.out _).mono ?_; rintro e w3 ⟨rfl, b3⟩))
    go_ret
    exact ⟨rfl, bt (bal (bt (bal b1 _) b2) _) b3⟩
  · have HR := Lib.hid (fun W : World => record_no (str (List.replicate m 0)) W (by rw [hsz]; exact hm) (by rw [hsz]; unfold maxLen; omega))
    rw [app_nil_no _ (by rw [hsz]; exact hm) 5] at HP
    clear hsz
    generalize str (List.replicate m 0) = z at *
    generalize cellsOf (List.replicate m 0) = Z at *
    go_enter Try.func7, Try.ntmps7
    go_wp2_with (first
      | (go_at_call 10; refine (shown_any _).mono ?_; rintro e w1 ⟨rfl, b1⟩)
      | (go_at_call 16; refine (HR.out _).mono ?_; rintro e w2 ⟨rfl, b2⟩)
      | (go_at_call 22; refine (HP.out _).mono ?_; rintro e w3 ⟨rfl, b3⟩))
    go_ret
    refine ⟨?_, bt (bal (bt (bal b1 _) b2) _) b3⟩
    show Ending.returned (.bool (!decide ((m : Int) ≤ 4096))) = _
    rw [decide_eq_false (by omega)]
    rfl
theorem open_strs {H : Type} {enc : TypeId × Value → H} {w : World} {base : Nat} {held : Bool} {A : Option Addr} {l c : Nat} {d : DataW H} {p : List MemPlace} (h : DataW.Trod enc Try.prog w base (fun _ => true) held 22 (.slice A l c) d p) :
    ∃ xs : List ByteArray, ArgAt w 1 A l (xs.map Value.string) ∧ (∀ x ∈ xs, x.size ≤ maxLen) ∧ xs.length = l := by
  obtain ⟨xs, h0, h1, h2, _⟩ := open_argS Try.underlying22 Try.underlying9 (by kernel_rfl) h
  exact ⟨xs, h1, h2, h0⟩
end Go.Proofs.Ytnbdiifpldgkhaa
