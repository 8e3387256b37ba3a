/-
  What Change of crc and of its reference computes. Conditions: strings are at most as long as Go allows.
-/
import Derived.Test.YtlfbmicpaacbnaaCrcB
import Derived.Test.YtlfbmicpaacbnaaCrcN
import Derived.WalkMore
namespace Go.Proofs.Ytlfbmicpaacbnaa
open Go.RowKit Go.Shelf Ros
attribute [local go_sem] Oper.semAt_some

theorem change_no (s : ByteArray) (bit : Int) (mask : Nat) (w : World) (hs : s.size ≤ 140737488355328) (hb1 : -9223372036854775808 ≤ bit) (hb2 : bit ≤ 9223372036854775807) (h : bit < 0 ∨ 8 * (s.size : Int) ≤ bit) :
    Calls Try.prog 27 #[.string s, .int .i64 bit, .int .u32 (mask : Int)] w fun e w' => e = .returned (.tuple #[.string (str []), .int .i64 2]) ∧ Below w.heap.size w w' := by
  refine calls_marksP Try.func27 rfl ?_
  simp only [Try.ntmps27, List.size_toArray, List.length_cons, List.length_nil, Nat.reduceAdd, Nat.reduceSub, Array.replicate_succ, Array.replicate_zero, List.push_toArray, List.append_toArray, List.nil_append, List.cons_append]
  by_cases hn : bit < 0
  · clear h
    go_wp2
    go_step3
    go_wp2
    rw [Exit.noGoto_ret]
    refine leaves_plain2 rfl ?_
    exact ⟨rfl, Below.refl _ _⟩
  · have hq : 8 * (s.size : Int) ≤ bit := by omega
    have h3 : (s.size : Int) ≤ bit / 8 := by omega
    have h4 : bit.tdiv 8 = bit / 8 := Int.tdiv_eq_ediv_of_nonneg (by omega)
    clear h hq
    go_wp2
    go_step3
    go_wp2
    rw [Exit.noGoto_ret]
    refine leaves_plain2 rfl ?_
    exact ⟨rfl, Below.refl _ _⟩

theorem put5_cells (m : Nat) (hm : m < 2 ^ 40) : #[Value.int .u8 ((m : Int) % 256), .int .u8 ((m : Int) / 256 % 256), .int .u8 ((m : Int) / 65536 % 256), .int .u8 ((m : Int) / 16777216 % 256), .int .u8 ((m : Int) / 4294967296)] = cellsOf (toB 5 m) := by
  simp only [cellsOf, toB, List.map_cons, List.map_nil, UInt8.toNat_ofNat', Nat.reducePow]
  congr 1
  simp
  omega

theorem chg_cell (l : List UInt8) (a m k : Nat) (rest : Array Value) (h : a + k < l.length) (hk : k < 5) (hq : a + k < (chgK l a m k).length) :
    (cellsOf (chgK l a m k) ++ rest).setIfInBounds (a + k) (.int .u8 (bits .xor .u8 (((chgK l a m k)[a + k]'hq).toNat : Int) (((bl (str (toB 5 m)))[k]?.getD 0).toNat : Int))) = cellsOf (chgK l a m (k + 1)) ++ rest := by
  rw [u8_xor_nat _ _ (UInt8.toNat_lt _) (UInt8.toNat_lt _), ← UInt8.toNat_xor, cellsOf_set _ _ _ _ hq, ← chgK_succ _ _ _ _ h]
  have e1 : (bl (str (toB 5 m)))[k]?.getD 0 = UInt8.ofNat (m / 256 ^ k) := by rw [bl_str, ← List.getD_eq_getElem?_getD, toB_get 5 k m hk]
  have e2 : (chgK l a m k)[a + k]'hq = (chgK l a m k).getD (a + k) 0 := by simp [hq]
  rw [e1, e2]

set_option maxRecDepth 100000 in
set_option maxHeartbeats 1000000 in
theorem change_yes (s : ByteArray) (bit : Nat) (mask : Nat) (w : World) (hs : s.size ≤ 140737488355328) (hm : mask < 4294967296) (h : bit < 8 * s.size) :
    Calls Try.prog 27 #[.string s, .int .i64 (bit : Int), .int .u32 (mask : Int)] w fun e w' => e = .returned (.tuple #[.string (str (chg (bl s) bit mask)), .int .i64 0]) ∧ Below w.heap.size w w' := by
  have h1 : ¬ (s.size : Int) ≤ (bit : Int) / 8 := by omega
  have h2 : 0 ≤ (bit : Int) := by omega
  refine calls_marksP Try.func27 rfl ?_
  simp only [Try.ntmps27, List.size_toArray, List.length_cons, List.length_nil, Nat.reduceAdd, Nat.reduceSub, Array.replicate_succ, Array.replicate_zero, List.push_toArray, List.append_toArray, List.nil_append, List.cons_append]
  have hM1 : mask * 2 ^ (bit % 8) < 2 ^ 40 := by
    have h8 : 2 ^ (bit % 8) ≤ 2 ^ 7 := Nat.pow_le_pow_right (by omega) (by omega)
    have : mask * 2 ^ (bit % 8) ≤ mask * 2 ^ 7 := Nat.mul_le_mul_left _ h8
    omega
  have hM2 : IntKind.u64.wrap ((mask : Int) * 2 ^ (bit % 8)) = ((mask * 2 ^ (bit % 8) : Nat) : Int) := by
    have e : (mask : Int) * 2 ^ (bit % 8) = ((mask * 2 ^ (bit % 8) : Nat) : Int) := by simp
    rw [e]; exact IntWalk.u64_in _ ⟨by omega, by omega⟩
  have HC := Lib.hid (chgK_chg (bl s) bit mask hm)
  generalize mask * 2 ^ (bit % 8) = m at *
  have hcv := fun w' : World => run_bytes_of_string (P := Try.prog) w' 9 72 5 s Try.underlying9 Try.underlying72 Try.underlying5
  go_wp2_with fail
  go_step3
  go_wp2_with fail
  rw [hM2]
  have hge := grownCap_ge (w.alloc (.cells #[.int .i64 ((bit : Int) / 8)] 3)) s.size 0 5
  generalize grownCap (w.alloc (.cells #[.int .i64 ((bit : Int) / 8)] 3)) s.size 0 5 = cap at *
  clear hcv
  have HM2 := Lib.hid hM2
  clear hM2
  go_step3
  go_wp2_with fail
  have hcs := fun w' : World => @cells_new w' _ 5 (toB 5 m) (put5_cells m hM1)
  refine calls_named ?_
  intro W0 hW0
  have hbl := blocks4 w (.cells #[.int .i64 ((bit : Int) / 8)] 3) (.cells (bytesRow s cap) 5 ((bytesRow s cap).size, (bytesRow s cap).size + 1)) (.cells #[.slice (some ⟨w.heap.size + 1, 0, none⟩) s.size cap] 72) (.cells #[Value.int .u8 ((m : Int) % 256), .int .u8 ((m : Int) / 256 % 256), .int .u8 ((m : Int) / 65536 % 256), .int .u8 ((m : Int) / 16777216 % 256), .int .u8 ((m : Int) / 4294967296)] 5)
  rw [← hW0] at hbl
  clear hW0
  obtain ⟨hA, hR, hS, hT, hz, hB⟩ := hbl
  rw [put5_cells m hM1] at hT
  refine (text_any (w.heap.size + 3) 5 (toB 5 m) W0 (fun j hj => by rw [addr_add, Nat.zero_add, cell_row hT]; exact cellsOf_get _ _ hj)).mono ?_
  rintro e w' ⟨rfl, rfl⟩
  go_wp2_with (go_at_call 35; refine (each_any _ _).mono ?_; rintro e w' ⟨rfl, rfl⟩)
  clear hcs
  have HZ := Lib.hid hz
  have hbr : bytesRow s cap = cellsOf (bl s) ++ Array.replicate (cap - s.size) (.int .u8 0) := by
    unfold bytesRow cellsOf bl
    rw [← Array.toList_map, Array.toArray_toList]
  have hcsz : (bytesRow s cap).size = cap := by simp [bytesRow]; omega
  rw [hcsz, hbr] at hR
  clear hbr hcsz
  generalize hrest : Array.replicate (cap - s.size) (Value.int .u8 0) = rest at *
  clear hrest
  have h5 : (str (toB 5 m)).size ≤ maxLen := by rw [size_str, toB_length]; unfold maxLen; omega
  refine range_lawP (gf := 38) (lb := #[.pointer (some ⟨w.heap.size + 4, 0, none⟩)]) rfl (enters_of Try.func38 (by kernel_rfl) rfl) (each1_iter (w.heap.size + 4) (str (toB 5 m)) h5) (fun _ => rfl)
    (fun pre W => W.heap[w.heap.size]? = some (.cells #[.int .i64 ((bit : Int) / 8)] 3 (0, 0)) ∧ W.heap[w.heap.size + 1]? = some (.cells (cellsOf (chgK (bl s) (bit / 8) m pre.length) ++ rest) 5 (cap, cap + 1)) ∧ W.heap[w.heap.size + 2]? = some (.cells #[.slice (some ⟨w.heap.size + 1, 0, none⟩) s.size cap] 72 (0, 0)) ∧ Boxed W (w.heap.size + 4) 9 (.string (str (toB 5 m))) ∧ Below w.heap.size w W)
    (fun c _ W => c = .exit 0 ∧ W.heap[w.heap.size + 1]? = some (.cells (cellsOf (chg (bl s) bit mask) ++ rest) 5 (cap, cap + 1)) ∧ W.heap[w.heap.size + 2]? = some (.cells #[.slice (some ⟨w.heap.size + 1, 0, none⟩) s.size cap] 72 (0, 0)) ∧ Below w.heap.size w W)
    ((own_cells _ _ _ _ _).and ((own_cells _ _ _ _ _).and ((own_cells _ _ _ _ _).and ((own_box _ _ _ _).and (own_below (Nat.le_refl _) (by simp; omega))))))
    (fun c => (own_pure _ _).and ((own_cells _ _ _ _ _).and ((own_cells _ _ _ _ _).and (own_below (Nat.le_refl _) (by simp; omega))))) (fun _ _ h => h.2.2.2.1.cell) ?h0 ?hround ?hdone ?hstop
  case h0 =>
    refine ⟨(Below.heap_alloc _ _ _ (by omega)).trans hA, ?_, (Below.heap_alloc _ _ _ (by omega)).trans hS, hz ▸ Boxed.new W0 _ _, hB.alloc (by omega) _⟩
    rw [List.length_nil, chgK_zero]
    exact (Below.heap_alloc _ _ _ (by omega)).trans hR
  case hround =>
    rintro l pre x post W hxs hl hlW ⟨hA1, hR1, hS1, hT1, hB1⟩
    clear hz
    obtain ⟨hx1, hx2, hx3⟩ := pairs_mid _ _ _ _ hxs
    clear hx3
    rw [bl_str, toB_length] at hx1
    dsimp only [encP]
    subst hx2
    gi_wp2
    refine ⟨KeepsFrom.refl _ _, ⟨hA1, hR1, hS1, hT1, hB1⟩, ?_⟩
    clear hA1 hR1 hS1 hT1 hB1 hA hR hS hT hB
    rintro W2 hg hsz ⟨hA, hR, hS, hT, hB⟩
    have hca : W2.cell? ⟨w.heap.size, 0, none⟩ = some (.int .i64 ((bit : Int) / 8)) := cell_row hA 0
    have hcs : W2.cell? ⟨w.heap.size + 2, 0, none⟩ = some (.slice (some ⟨w.heap.size + 1, 0, none⟩) s.size cap) := cell_row hS 0
    by_cases hlt : bit / 8 + pre.length < s.size
    · have hlen : bit / 8 + pre.length < (chgK (bl s) (bit / 8) m pre.length).length := by rw [chgK_length, ← size_bl]; exact hlt
      have hcx : W2.cell? ⟨w.heap.size + 1, bit / 8 + pre.length, none⟩ = _ := (cell_row hR _).trans (cellsOf_getD _ _ _ hlen)
      have hfx := row_frozen hR (bit / 8 + pre.length) (by omega)
      have ht : ¬ (s.size : Int) ≤ (bit : Int) / 8 + (pre.length : Int) := by omega
      gi_wp2
      refine ⟨keeps_set _ _ _, (row_other (by omega) _ _).trans hA, ?_, (row_other (by omega) _ _).trans hS, (row_other (by omega) _ _).trans hT, hB.setCell (p := ⟨w.heap.size + 1, _, none⟩) (by simp) _⟩
      refine (row_set hR _ _).trans ?_
      rw [chg_cell (bl s) (bit / 8) m pre.length rest (by rw [← size_bl]; exact hlt) hx1 hlen]
      simp
    · have ht : (s.size : Int) ≤ (bit : Int) / 8 + (pre.length : Int) := by omega
      have he := chgK_end (bl s) (bit / 8) m pre.length (by rw [← size_bl]; omega) (5 - pre.length)
      rw [show pre.length + (5 - pre.length) = 5 by omega, HC.out] at he
      rw [← he] at hR
      clear he
      gi_wp2
      exact ⟨KeepsFrom.refl _ _, rfl, hR, hS, hB⟩
  case hdone =>
    rintro D W hD ⟨hA, hR, hS, hT, hB⟩ hK
    rw [show (pairs (bl (str (toB 5 m)))).length = 5 by simp [pairs, bl_str, toB_length], HC.out] at hR
    have hcs : W.cell? ⟨w.heap.size + 2, 0, none⟩ = some (.slice (some ⟨w.heap.size + 1, 0, none⟩) s.size cap) := cell_row hS 0
    have hcv := run_convert_bytes_back (P := Try.prog) W 72 9 5 ⟨w.heap.size + 1, 0, none⟩ cap (chg (bl s) bit mask) Try.underlying72 Try.underlying5 Try.underlying9 (fun j hj => by rw [addr_add, Nat.zero_add, cell_row hR, Array.getElem?_append_left (by rw [cellsOf_size]; exact hj)]; exact cellsOf_get _ _ hj)
    rw [chg_length, ← size_bl] at hcv
    go_wp2
    rw [Exit.noGoto_ret]
    refine leaves_mark2 rfl hK ?_
    exact ⟨rfl, below_put hB (by simp at hD; omega) (Nat.le_refl _)⟩
  case hstop =>
    rintro D c pre W hD hp ⟨rfl, hR, hS, hB⟩ hK
    have hcs : W.cell? ⟨w.heap.size + 2, 0, none⟩ = some (.slice (some ⟨w.heap.size + 1, 0, none⟩) s.size cap) := cell_row hS 0
    have hcv := run_convert_bytes_back (P := Try.prog) W 72 9 5 ⟨w.heap.size + 1, 0, none⟩ cap (chg (bl s) bit mask) Try.underlying72 Try.underlying5 Try.underlying9 (fun j hj => by rw [addr_add, Nat.zero_add, cell_row hR, Array.getElem?_append_left (by rw [cellsOf_size]; exact hj)]; exact cellsOf_get _ _ hj)
    rw [chg_length, ← size_bl] at hcv
    go_wp2
    rw [Exit.noGoto_ret]
    refine leaves_mark2 rfl hK ?_
    exact ⟨rfl, below_put hB (by simp at hD; omega) (Nat.le_refl _)⟩

set_option maxHeartbeats 400000 in
theorem refchange_no (s : ByteArray) (bit : Int) (mask : Nat) (w : World) (hs : s.size ≤ 140737488355328) (hb1 : -9223372036854775808 ≤ bit) (hb2 : bit ≤ 9223372036854775807) (h : bit < 0 ∨ 8 * (s.size : Int) ≤ bit) :
    Calls Try.prog 37 #[.string s, .int .i64 bit, .int .u32 (mask : Int)] w fun e w' => e = .returned (.tuple #[.string (str []), .int .i64 2]) ∧ Below w.heap.size w w' := by
  by_cases hn : bit < 0
  · clear h
    go_enter Try.func37, Try.ntmps37
    go_wp2
    go_ret2
    exact ⟨rfl, Below.refl _ _⟩
  · have hq : 8 * (s.size : Int) ≤ bit := by omega
    clear h
    go_enter Try.func37, Try.ntmps37
    go_wp2
    go_ret2
    exact ⟨rfl, Below.refl _ _⟩

theorem ref_bit (mask n : Nat) (hm : mask < 4294967296) : bits .and .u32 ((mask : Int) / 2 ^ n) 1 = ((mask / 2 ^ n % 2 : Nat) : Int) := by
  have e : (mask : Int) / 2 ^ n = ((mask / 2 ^ n : Nat) : Int) := by simp
  have hlt : mask / 2 ^ n < 4294967296 := Nat.lt_of_le_of_lt (Nat.div_le_self _ _) hm
  have h := u32_and_nat (mask / 2 ^ n) 1 hlt (by omega)
  rw [show ((1 : Nat) : Int) = 1 from rfl] at h
  rw [e, h, Nat.and_one_is_mod]

theorem ref_cell (l : List UInt8) (rest : Array Value) (j q : Nat) (hq : j < l.length) :
    (cellsOf l ++ rest).setIfInBounds j (.int .u8 (bits .xor .u8 ((l[j]'hq).toNat : Int) (2 ^ q % 256))) = cellsOf (l.set j (l.getD j 0 ^^^ UInt8.ofNat (2 ^ q))) ++ rest := by
  have e : (2 : Int) ^ q % 256 = ((UInt8.ofNat (2 ^ q)).toNat : Int) := by rw [UInt8.toNat_ofNat']; simp
  have e2 : l.getD j 0 = l[j]'hq := by simp [hq]
  rw [e, u8_xor_nat _ _ (UInt8.toNat_lt _) (UInt8.toNat_lt _), ← UInt8.toNat_xor, cellsOf_set _ _ _ _ hq, e2]

set_option maxRecDepth 100000 in
set_option maxHeartbeats 1000000 in
theorem refchange_yes (s : ByteArray) (bit : Nat) (mask : Nat) (w : World) (hs : s.size ≤ 140737488355328) (hm : mask < 4294967296) (h : bit < 8 * s.size) :
    Calls Try.prog 37 #[.string s, .int .i64 (bit : Int), .int .u32 (mask : Int)] w fun e w' => e = .returned (.tuple #[.string (str (chg (bl s) bit mask)), .int .i64 0]) ∧ Below w.heap.size w w' := by
  have h1 : ¬ 8 * (s.size : Int) ≤ (bit : Int) := by omega
  have h2 : 0 ≤ (bit : Int) := by omega
  have hcv := fun w' : World => run_bytes_of_string (P := Try.prog) w' 9 72 5 s Try.underlying9 Try.underlying72 Try.underlying5
  go_enter Try.func37, Try.ntmps37
  go_wp2
  have hge := grownCap_ge w s.size 0 5
  generalize grownCap w s.size 0 5 = cap at *
  clear hcv
  have hbr : bytesRow s cap = cellsOf (bl s) ++ Array.replicate (cap - s.size) (.int .u8 0) := by
    unfold bytesRow cellsOf bl
    rw [← Array.toList_map, Array.toArray_toList]
  have hcsz : (bytesRow s cap).size = cap := by simp [bytesRow]; omega
  rw [hcsz, hbr]
  clear hbr hcsz
  generalize hrest : Array.replicate (cap - s.size) (Value.int .u8 0) = rest at *
  clear hrest
  have HA := Lib.hid (chgR_all (bl s) bit mask hm)
  go_loopw [9] (fun i wr => ∃ n : Nat, n ≤ 32 ∧ i = .int .i64 n ∧ wr.heap[w.heap.size]? = some (.cells (cellsOf (chgR (bl s) bit mask n) ++ rest) 5 (cap, cap + 1)) ∧ Below w.heap.size w wr) (fun i _ => 32 - (intOf i).toNat)
  case atStart => exact ⟨0, by omega, rfl, by rw [chgR_zero]; exact World.alloc_heap_new w _, ((Below.refl _ w).alloc (Nat.le_refl _) _).drew⟩
  case round =>
    obtain ⟨n, hn, rfl, hR, hB⟩ := hrel
    by_cases hlt : n < 32
    · have hbt := ref_bit mask n hm
      by_cases hk : bit + n < 8 * s.size
      · have hk2 : ((bit : Int) + (n : Int)) < 8 * (s.size : Int) := by omega
        by_cases hbit : mask / 2 ^ n % 2 = 1
        · have HS := Lib.hid (chgR_on (bl s) bit mask n hbit (by rw [← size_bl]; exact hk))
          have hlen : (bit + n) / 8 < (chgR (bl s) bit mask n).length := by rw [chgR_length, ← size_bl]; omega
          have hcx : wr.cell? ⟨w.heap.size, (bit + n) / 8, none⟩ = _ := (cell_row hR _).trans (cellsOf_getD _ _ _ hlen)
          have hfx := row_frozen hR ((bit + n) / 8) (by omega)
          rw [hbit] at hbt
          go_wp2
          refine ⟨⟨n + 1, by omega, by go_num, ?_, hB.setCell (p := ⟨w.heap.size, _, none⟩) (Nat.le_refl _) _⟩, by simp [intOf]; omega⟩
          refine (row_set hR _ _).trans ?_
          rw [ref_cell _ _ _ _ hlen, HS.out]
        · have hb0 : mask / 2 ^ n % 2 = 0 := by omega
          have HS := Lib.hid (chgR_off (bl s) bit mask n hb0)
          rw [hb0] at hbt
          clear hbit
          go_wp2
          refine ⟨⟨n + 1, by omega, by go_num, ?_, hB⟩, by simp [intOf]; omega⟩
          rw [HS.out]; exact hR
      · have HS := Lib.hid (chgR_far (bl s) bit mask n (by rw [← size_bl]; omega))
        have hk2 : ¬ ((bit : Int) + (n : Int)) < 8 * (s.size : Int) := by omega
        clear hbt
        go_wp2
        refine ⟨⟨n + 1, by omega, by go_num, ?_, hB⟩, by simp [intOf]; omega⟩
        rw [HS.out]; exact hR
    · obtain rfl : n = 32 := by omega
      rw [HA.out] at hR
      have hcv := run_convert_bytes_back (P := Try.prog) wr 72 9 5 ⟨w.heap.size, 0, none⟩ cap (chg (bl s) bit mask) Try.underlying72 Try.underlying5 Try.underlying9 (fun j hj => by rw [addr_add, Nat.zero_add, cell_row hR, Array.getElem?_append_left (by rw [cellsOf_size]; exact hj)]; exact cellsOf_get _ _ hj)
      rw [chg_length, ← size_bl] at hcv
      go_wp2
      go_ret2
      exact ⟨rfl, hB⟩
end Go.Proofs.Ytlfbmicpaacbnaa
