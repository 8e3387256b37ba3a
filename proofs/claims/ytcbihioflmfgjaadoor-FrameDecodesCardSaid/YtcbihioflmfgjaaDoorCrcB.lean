/-
  What the functions of crc and of its reference compute: sums, numbers as bytes, bytes sealed and opened. Conditions: strings are at most as long as Go allows.
-/
import Derived.Test.YtcbihioflmfgjaaDoorCrcA
import Derived.Deep.QuietTactic
import Derived.BigQuiet
import Derived.Deep.RegionHeld3
import Derived.Test.YtcbihioflmfgjaaDoorRound
namespace Go.Proofs.YtcbihioflmfgjaaDoor
open Go.RowKit Go.Shelf Ros
attribute [local go_sem] Oper.semAt_some

set_option maxHeartbeats 400000 in
theorem sum_any (s : ByteArray) (w : World) (hs : s.size ≤ maxLen) :
    Calls Tryd.prog 40 #[.string s] w fun e w' => e = .returned (.int .u32 ((sum (bl s) : Nat) : Int)) ∧ Below w.heap.size w w' := by
  go_enter Tryd.func40, Tryd.ntmps40
  go_wp2_with (go_at_call 46; refine (more_any 0 _ _ (by omega) hs).mono ?_; rintro e w' ⟨rfl, hb⟩)
  go_ret
  exact ⟨ret_int (by rw [sum_def]), hb⟩

set_option maxHeartbeats 400000 in
theorem text_any (b cap : Nat) (l : List UInt8) (w : World) (hc : ∀ j (hj : j < l.length), w.cell? ((⟨b, 0, none⟩ : Addr).add j) = some (.int .u8 (l[j].toNat : Int))) :
    Calls Tryd.prog 38 #[.slice (some ⟨b, 0, none⟩) l.length cap] w fun e w' => e = .returned (.string (str l)) ∧ w = w' := by
  have hcv := run_convert_bytes_back (P := Tryd.prog) w 36 9 5 ⟨b, 0, none⟩ cap l Tryd.underlying36 Tryd.underlying5 Tryd.underlying9 hc
  clear hc
  go_enter Tryd.func38, Tryd.ntmps38
  go_wp2
  go_ret
  exact ⟨rfl, rfl⟩

theorem put_cells (n : Nat) (hn : n < 4294967296) : #[Value.int .u8 ((n : Int) % 256), .int .u8 ((n : Int) / 256 % 256), .int .u8 ((n : Int) / 65536 % 256), .int .u8 ((n : Int) / 16777216)] = cellsOf (toB 4 n) := by
  simp only [cellsOf, toB, List.map_cons, List.map_nil, UInt8.toNat_ofNat', Nat.reducePow]
  congr 1
  simp
  omega

set_option maxHeartbeats 400000 in
theorem put_any (n : Nat) (w : World) (hn : n < 4294967296) :
    Calls Tryd.prog 39 #[.int .u32 (n : Int)] w fun e w' => e = .returned (.string (str (toB 4 n))) ∧ Below w.heap.size w w' := by
  have hcs := fun w' : World => @cells_new w' _ 5 (toB 4 n) (put_cells n hn)
  go_enter Tryd.func39, Tryd.ntmps39
  go_wp2_with fail
  refine (text_any _ 4 (toB 4 n) _ (hcs w)).mono ?_
  rintro e w' ⟨rfl, rfl⟩
  go_wp2
  go_ret
  exact ⟨rfl, (Below.refl _ w).alloc (Nat.le_refl _) _⟩

set_option maxHeartbeats 400000 in
theorem refput_any (n : Nat) (w : World) (hn : n < 4294967296) :
    Calls Tryd.prog 27 #[.int .u32 (n : Int)] w fun e w' => e = .returned (.string (str (toB 4 n))) ∧ Below w.heap.size w w' := by
  have hcv := run_convert_bytes_back (P := Tryd.prog) (w.alloc (.cells #[.int .u8 ((n : Int) % 256), .int .u8 ((n : Int) / 256 % 256), .int .u8 ((n : Int) / 65536 % 256), .int .u8 ((n : Int) / 16777216)] 5)) 36 9 5 ⟨w.heap.size, 0, none⟩ 4 (toB 4 n) Tryd.underlying36 Tryd.underlying5 Tryd.underlying9 (@cells_new w _ 5 (toB 4 n) (put_cells n hn))
  rw [toB_length] at hcv
  go_enter Tryd.func27, Tryd.ntmps27
  go_wp2
  go_ret
  exact ⟨rfl, (Below.refl _ w).alloc (Nat.le_refl _) _⟩

set_option maxHeartbeats 400000 in
theorem seal_any (s : ByteArray) (w : World) (hs : s.size ≤ 140737488355328) :
    Calls Tryd.prog 26 #[.string s] w fun e w' => e = .returned (.string (str (bl s ++ toB 4 (sum (bl s))))) ∧ Below w.heap.size w w' := by
  have hs' : s.size ≤ maxLen := by unfold maxLen; omega
  have hE := Lib.hid (show s ++ str (toB 4 (sum (bl s))) = str (bl s ++ toB 4 (sum (bl s))) from str_of (by rw [bl_append, bl_str]))
  have hl : (toB 4 (sum (bl s))).length ≤ 4 := by rw [toB_length]; omega
  have hq := sum_lt (bl s)
  go_enter Tryd.func26, Tryd.ntmps26
  go_wp2_with (first | (go_at_call 40; refine (sum_any _ _ hs').mono ?_; rintro e w1 ⟨rfl, hb1⟩) | (go_at_call 39; refine (put_any _ _ hq).mono ?_; rintro e w2 ⟨rfl, hb2⟩))
  go_ret
  exact ⟨by rw [← hE.out]; rfl, hb1.trans (hb2.mono hb1.size)⟩

set_option maxHeartbeats 400000 in
theorem over_any (n : Nat) (w : World) (hn : n < 4294967296) :
    Calls Tryd.prog 47 #[.int .u32 (n : Int)] w fun e w' => e = .returned (.int .u32 ((4294967295 ^^^ n : Nat) : Int)) ∧ w = w' := by
  have h : bits .xor .u32 (n : Int) 4294967295 = ((4294967295 ^^^ n : Nat) : Int) := by
    rw [show (4294967295 : Int) = ((4294967295 : Nat) : Int) from rfl, u32_xor_nat _ _ hn (by omega), Nat.xor_comm]
  go_enter Tryd.func47, Tryd.ntmps47
  go_wp2
  go_ret
  exact ⟨rfl, rfl⟩

theorem run_take_succ (s : Nat) (l : List UInt8) (k : Nat) (h : k < l.length) : run s (l.take (k + 1)) = Ros.step (run s (l.take k)) (l.getD k 0).toNat := by
  rw [← List.take_append_getElem h, run_append]
  simp [run, h]

set_option maxRecDepth 100000 in
set_option maxHeartbeats 400000 in
theorem refmore_any (n : Nat) (s : ByteArray) (w : World) (hn : n < 4294967296) (hs : s.size ≤ maxLen) :
    Calls Tryd.prog 41 #[.int .u32 (n : Int), .string s] w fun e w' => e = .returned (.int .u32 ((more n (bl s) : Nat) : Int)) ∧ w = w' := by
  unfold maxLen at hs
  have hx := xor_lt 4294967295 n (by omega) hn
  go_enter Tryd.func41, Tryd.ntmps41
  go_wp2_with (go_at_call 47; refine (over_any _ _ hn).mono ?_; rintro e w' ⟨rfl, rfl⟩)
  go_loop [5, 6] (fun s' i => ∃ k : Nat, k ≤ s.size ∧ i = .int .i64 k ∧ s' = .int .u32 ((run (4294967295 ^^^ n) ((bl s).take k) : Nat) : Int)) (fun _ i => s.size - (intOf i).toNat)
  case atStart => exact ⟨0, by omega, rfl, by simp [run]⟩
  case round =>
    obtain ⟨k, hk, rfl, rfl⟩ := hrel
    have hr := run_lt ((bl s).take k) hx
    by_cases hlt : k < s.size
    · have hb := (s[k]).toNat_lt
      have HS := Lib.hid (run_take_succ (4294967295 ^^^ n) (bl s) k (by rw [← size_bl]; exact hlt))
      have HG := Lib.hid (bl_getD s k hlt)
      go_wp2_with (go_at_call 48; refine (refstep_any _ _ _ hr (by omega)).mono ?_; rintro e w' ⟨rfl, rfl⟩)
      go_round
      case rel => exact ⟨k + 1, by omega, by go_num, by rw [HS.out, HG.out]⟩
      case measure => simp [intOf]; omega
    · obtain rfl : k = s.size := by omega
      go_wp2_with (go_at_call 47; refine (over_any _ _ hr).mono ?_; rintro e w' ⟨rfl, rfl⟩)
      go_ret
      exact ⟨ret_int (by rw [List.take_of_length_le (by rw [size_bl]; omega), more_def]), rfl⟩

set_option maxHeartbeats 400000 in
theorem refsum_any (s : ByteArray) (w : World) (hs : s.size ≤ maxLen) :
    Calls Tryd.prog 30 #[.string s] w fun e w' => e = .returned (.int .u32 ((sum (bl s) : Nat) : Int)) ∧ w = w' := by
  go_enter Tryd.func30, Tryd.ntmps30
  go_wp2_with (go_at_call 41; refine (refmore_any 0 _ _ (by omega) hs).mono ?_; rintro e w' ⟨rfl, rfl⟩)
  go_ret
  exact ⟨ret_int (by rw [sum_def]), rfl⟩

set_option maxHeartbeats 400000 in
theorem refseal_any (s : ByteArray) (w : World) (hs : s.size ≤ 140737488355328) :
    Calls Tryd.prog 17 #[.string s] w fun e w' => e = .returned (.string (str (bl s ++ toB 4 (sum (bl s))))) ∧ Below w.heap.size w w' := by
  have hs' : s.size ≤ maxLen := by unfold maxLen; omega
  have hE := Lib.hid (show s ++ str (toB 4 (sum (bl s))) = str (bl s ++ toB 4 (sum (bl s))) from str_of (by rw [bl_append, bl_str]))
  have hl : (toB 4 (sum (bl s))).length ≤ 4 := by rw [toB_length]; omega
  have hq := sum_lt (bl s)
  go_enter Tryd.func17, Tryd.ntmps17
  go_wp2_with (first | (go_at_call 30; refine (refsum_any _ _ hs').mono ?_; rintro e w1 ⟨rfl, rfl⟩) | (go_at_call 27; refine (refput_any _ _ hq).mono ?_; rintro e w2 ⟨rfl, hb2⟩))
  go_ret
  exact ⟨by rw [← hE.out]; rfl, hb2⟩

/-- The number of four bytes. -/
theorem refget_bits (a b c d : Nat) (ha : a < 256) (hb : b < 256) (hc : c < 256) (hd : d < 256) :
    bits .or .u32 (bits .or .u32 (bits .or .u32 (a : Int) ((b : Int) * 256)) ((c : Int) * 65536)) ((d : Int) * 16777216) = ((a + 256 * (b + 256 * (c + 256 * d)) : Nat) : Int) := by
  have e1 : a + 2 ^ 8 * b = a ||| 2 ^ 8 * b := by rw [Nat.add_comm, Nat.two_pow_add_eq_or_of_lt (by omega), Nat.or_comm]
  have e2 : (a + 256 * b) + 2 ^ 16 * c = (a + 256 * b) ||| 2 ^ 16 * c := by rw [Nat.add_comm, Nat.two_pow_add_eq_or_of_lt (by omega), Nat.or_comm]
  have e3 : (a + 256 * b + 65536 * c) + 2 ^ 24 * d = (a + 256 * b + 65536 * c) ||| 2 ^ 24 * d := by rw [Nat.add_comm, Nat.two_pow_add_eq_or_of_lt (by omega), Nat.or_comm]
  simp only [Nat.reducePow] at e1 e2 e3
  rw [show (b : Int) * 256 = ((256 * b : Nat) : Int) by omega, u32_or_nat _ _ (by omega) (by omega), ← e1,
    show (c : Int) * 65536 = ((65536 * c : Nat) : Int) by omega, u32_or_nat _ _ (by omega) (by omega), ← e2,
    show (d : Int) * 16777216 = ((16777216 * d : Nat) : Int) by omega, u32_or_nat _ _ (by omega) (by omega), ← e3]
  congr 1; omega

theorem refget_bits' (a b c d : Nat) (ha : a < 256) (hb : b < 256) (hc : c < 256) (hd : d < 256) :
    bits .or .u32 (bits .or .u32 (bits .or .u32 ((a : Int) % 4294967296) ((b : Int) % 4294967296 * 256 % 4294967296)) ((c : Int) % 4294967296 * 65536 % 4294967296)) ((d : Int) % 4294967296 * 16777216 % 4294967296) = ((a + 256 * (b + 256 * (c + 256 * d)) : Nat) : Int) := by
  rw [show (a : Int) % 4294967296 = a by omega, show (b : Int) % 4294967296 * 256 % 4294967296 = (b : Int) * 256 by omega, show (c : Int) % 4294967296 * 65536 % 4294967296 = (c : Int) * 65536 by omega, show (d : Int) % 4294967296 * 16777216 % 4294967296 = (d : Int) * 16777216 by omega]
  exact refget_bits a b c d ha hb hc hd
theorem le_four (s : ByteArray) (hs : s.size = 4) : le (bl s) = (s[0]'(by omega)).toNat + 256 * ((s[1]'(by omega)).toNat + 256 * ((s[2]'(by omega)).toNat + 256 * (s[3]'(by omega)).toNat)) := by
  have hl : (bl s).length = 4 := by rw [← size_bl]; exact hs
  match hb : bl s, hl with
  | [a, b, c, d], _ =>
    have e0 := bl_get s 0 (by omega)
    have e1 := bl_get s 1 (by omega)
    have e2 := bl_get s 2 (by omega)
    have e3 := bl_get s 3 (by omega)
    simp only [hb, List.getElem_cons_zero, List.getElem_cons_succ] at e0 e1 e2 e3
    rw [e0, e1, e2, e3]
    simp [le]

theorem ret_pair {v v' u u' : Value} (h : v = v') (h' : u = u') : Ending.returned (.tuple #[v, u]) = .returned (.tuple #[v', u']) := by rw [h, h']
theorem int_eq {k : IntKind} {a b : Int} (h : a = b) : Value.int k a = .int k b := by rw [h]
theorem below_drewN (w : World) (n B : Nat) : Below B w (w.drewN n) := ⟨rfl, rfl, rfl, Nat.le_refl _, fun _ _ => rfl⟩

set_option maxHeartbeats 400000 in
theorem refget_yes (s : ByteArray) (w : World) (hs : s.size = 4) :
    Calls Tryd.prog 44 #[.string s] w fun e w' => e = .returned (.tuple #[.int .u32 ((le (bl s) : Nat) : Int), .int .i64 0]) ∧ Below w.heap.size w w' := by
  have h0 : 0 < s.size := by omega
  have h1 : (1 : Int) < (s.size : Int) := by omega
  have h2 : (2 : Int) < (s.size : Int) := by omega
  have h3 : (3 : Int) < (s.size : Int) := by omega
  have h4 : ((s.size : Int) != 4) = false := by simp; omega
  have HS := Lib.hid hs
  clear hs
  go_enter Tryd.func44, Tryd.ntmps44
  go_wp2
  go_quiet (fail)
  go_wp2
  go_ret2
  exact ⟨ret_pair (int_eq (by rw [refget_bits' _ _ _ _ (s[0]).toNat_lt (s[1]).toNat_lt (s[2]).toNat_lt (s[3]).toNat_lt, le_four s HS.out])) rfl, below_drewN _ _ _⟩

set_option maxHeartbeats 400000 in
theorem refget_no (s : ByteArray) (w : World) (hs : s.size ≠ 4) :
    Calls Tryd.prog 44 #[.string s] w fun e w' => e = .returned (.tuple #[.int .u32 0, .int .i64 2]) ∧ Below w.heap.size w w' := by
  have h4 : ((s.size : Int) != 4) = true := by simp; omega
  clear hs
  go_enter Tryd.func44, Tryd.ntmps44
  go_wp2
  go_ret2
  exact ⟨rfl, Below.refl _ _⟩

set_option maxHeartbeats 400000 in
theorem get_no (s : ByteArray) (w : World) (hs : s.size ≠ 4) :
    Calls Tryd.prog 50 #[.string s] w fun e w' => e = .returned (.tuple #[.int .u32 0, .int .i64 2]) ∧ Below w.heap.size w w' := by
  have h4 : ((s.size : Int) != 4) = true := by simp; omega
  clear hs
  refine calls_marks Tryd.func50 rfl ?_
  simp only [Tryd.ntmps50, List.size_toArray, List.length_cons, List.length_nil, Nat.reduceAdd, Nat.reduceSub, Array.replicate_succ, Array.replicate_zero, List.push_toArray, List.append_toArray, List.nil_append, List.cons_append]
  gi_wp2
  refine leaves_plain2 rfl ?_
  exact ⟨rfl, Below.refl _ _⟩

theorem le_append (l m : List UInt8) : le (l ++ m) = le l + 256 ^ l.length * le m := by
  induction l with
  | nil => simp [le]
  | cons a l ih =>
    simp only [List.cons_append, le, ih, List.length_cons, Nat.pow_succ, Nat.mul_add]
    rw [← Nat.mul_assoc 256, Nat.mul_comm (256 ^ l.length) 256]; omega
def orP (l : List (Nat × UInt8)) : Nat := le (l.map (·.2))

theorem orP_lt (l : List (Nat × UInt8)) : orP l < 256 ^ l.length := by have := le_lt (l.map (·.2)); simpa [orP] using this
theorem orP_pairs (l : List UInt8) : orP (pairs l) = le l := by
  unfold orP pairs
  congr 1
  apply List.ext_getElem
  · simp
  · intro i h1 h2
    simp [h2]
theorem orP_snoc (l : List (Nat × UInt8)) (x : Nat × UInt8) : orP (l ++ [x]) = orP l + 256 ^ l.length * x.2.toNat := by
  simp [orP, le_append, le]
theorem or_nat {p c k : Nat} (hp : p < 2 ^ k) (hp2 : p < 4294967296) (hc : 2 ^ k * c < 4294967296) : bits .or .u32 (p : Int) ((2 ^ k * c : Nat) : Int) = ((p + 2 ^ k * c : Nat) : Int) := by
  have h1 : p + 2 ^ k * c = p ||| 2 ^ k * c := by rw [Nat.add_comm, Nat.two_pow_add_eq_or_of_lt hp, Nat.or_comm]
  rw [h1, u32_or_nat _ _ hp2 hc]
theorem or_s0 {p c : Nat} (hp : p < 256 ^ 0) (hc : c < 2 ^ 8) : bits .or .u32 (p : Int) (c : Int) = ((p + 256 ^ 0 * c : Nat) : Int) := by
  have h := or_nat (p := p) (c := c) (k := 0) (by simpa using hp) (by omega) (by omega)
  simpa using h
theorem or_s1 {p c : Nat} (hp : p < 256 ^ 1) (hc : c < 2 ^ 8) : bits .or .u32 (p : Int) ((c : Int) * 256) = ((p + 256 ^ 1 * c : Nat) : Int) := by
  have h := or_nat (p := p) (c := c) (k := 8) (by omega) (by omega) (by omega)
  simp only [Nat.reducePow] at h ⊢
  rw [show (c : Int) * 256 = ((256 * c : Nat) : Int) by omega]; exact h
theorem or_s2 {p c : Nat} (hp : p < 256 ^ 2) (hc : c < 2 ^ 8) : bits .or .u32 (p : Int) ((c : Int) * 65536) = ((p + 256 ^ 2 * c : Nat) : Int) := by
  have h := or_nat (p := p) (c := c) (k := 16) (by omega) (by omega) (by omega)
  simp only [Nat.reducePow] at h ⊢
  rw [show (c : Int) * 65536 = ((65536 * c : Nat) : Int) by omega]; exact h
theorem or_s3 {p c : Nat} (hp : p < 256 ^ 3) (hc : c < 2 ^ 8) : bits .or .u32 (p : Int) ((c : Int) * 16777216) = ((p + 256 ^ 3 * c : Nat) : Int) := by
  have h := or_nat (p := p) (c := c) (k := 24) (by omega) (by omega) (by omega)
  simp only [Nat.reducePow] at h ⊢
  rw [show (c : Int) * 16777216 = ((16777216 * c : Nat) : Int) by omega]; exact h

set_option maxRecDepth 100000 in
set_option maxHeartbeats 1000000 in
theorem get_yes (s : ByteArray) (w : World) (hs : s.size = 4) :
    Calls Tryd.prog 50 #[.string s] w fun e w' => e = .returned (.tuple #[.int .u32 ((le (bl s) : Nat) : Int), .int .i64 0]) ∧ Below w.heap.size w w' := by
  have h4 : ((s.size : Int) != 4) = false := by simp; omega
  have hm : s.size ≤ maxLen := by unfold maxLen; omega
  have HS := Lib.hid hs
  clear hs
  refine calls_marks Tryd.func50 rfl ?_
  simp only [Tryd.ntmps50, List.size_toArray, List.length_cons, List.length_nil, Nat.reduceAdd, Nat.reduceSub, Array.replicate_succ, Array.replicate_zero, List.push_toArray, List.append_toArray, List.nil_append, List.cons_append]
  gi_wp2_with (gi_at_call 37; refine (in_wide _ (each_any _ _)).mono ?_; rintro e w' ⟨rfl, rfl⟩)
  refine range_law (gf := 45) (lb := #[.pointer (some ⟨w.heap.size + 1, 0, none⟩)]) rfl (enters_of Tryd.func45 (by kernel_rfl) rfl) (each1_iter (w.heap.size + 1) s hm) (fun _ => rfl)
    (fun pre W => Boxed W w.heap.size 22 (.int .u32 ((orP pre : Nat) : Int)) ∧ Boxed W (w.heap.size + 1) 9 (.string s) ∧ Below w.heap.size w W)
    (fun _ _ _ => False) (OwnFrom.and (own_box _ _ _ _) (OwnFrom.and (own_box _ _ _ _) (own_below (Nat.le_refl _) (by simp; omega)))) own_false (fun _ _ h => h.2.1.cell) ?h0 ?hround ?hdone ?hstop
  case h0 =>
    refine ⟨(Boxed.new _ _ _).alloc _, ?_, ((Below.refl _ w).alloc (Nat.le_refl _) _).alloc (by simp) _⟩
    have h := Boxed.new (w.alloc (.cells #[.int .u32 0] 22)) 9 (.string s)
    simpa using h
  case hround =>
    rintro l pre x post W hxs hl hlW ⟨hb1, hb2, hB⟩
    dsimp only [encP]
    gi_wp2
    refine ⟨KeepsFrom.refl _ _, ⟨hb1, hb2, hB⟩, ?_⟩
    rintro W2 hg hsz ⟨hc1, hc2, hB2⟩
    have hc := hc1.cell
    have hf := hc1.frozen
    obtain ⟨hx1, hx2, hx3⟩ := pairs_mid _ _ _ _ hxs
    rw [← size_bl] at hx1
    have h4' : pre.length = 0 ∨ pre.length = 1 ∨ pre.length = 2 ∨ pre.length = 3 := by have := HS.out; omega
    generalize (bl s).getD pre.length 0 = c at *
    have hx := c.toNat_lt
    clear hx3 hxs hx1
    have w0 : IntKind.i64.wrap 0 = 0 := by decide
    have w1 : IntKind.i64.wrap 8 = 8 := by decide
    have w2 : IntKind.i64.wrap 16 = 16 := by decide
    have w3 : IntKind.i64.wrap 24 = 24 := by decide
    have wc : IntKind.u32.wrap (c.toNat : Int) = (c.toNat : Int) := IntWalk.u32_in _ ⟨by omega, by omega⟩
    have v1 : IntKind.u32.wrap ((c.toNat : Int) * 256) = (c.toNat : Int) * 256 := IntWalk.u32_in _ ⟨by omega, by omega⟩
    have v2 : IntKind.u32.wrap ((c.toNat : Int) * 65536) = (c.toNat : Int) * 65536 := IntWalk.u32_in _ ⟨by omega, by omega⟩
    have v3 : IntKind.u32.wrap ((c.toNat : Int) * 16777216) = (c.toNat : Int) * 16777216 := IntWalk.u32_in _ ⟨by omega, by omega⟩
    rcases h4' with e | e | e | e
    all_goals
      rw [e] at hx2
      subst hx2
      have HE := Lib.hid e
      clear e
      gi_wp2
      refine round_still_tail l _ 7 (by kernel_rfl) (by kernel_rfl) (by kernel_rfl) (by rintro ⟨_, _, h⟩; exact h) ?_
      simp only [List.take_succ_cons, List.take_zero, List.drop_succ_cons, List.drop_zero]
      repeat still_step
      refine wpStill_nil ?_
      go_wp2
      refine ⟨keeps_drew (keeps_set _ _ _), box_drew ?_, box_drew (hc2.other (by omega) _), (hB2.setCell (p := ⟨w.heap.size, 0, none⟩) (Nat.le_refl _) _).drew⟩
      have h1 := orP_lt pre
      rw [HE.out] at h1
      refine box_eq (hc1.set _) ?_
      rw [orP_snoc, HE.out]
      refine int_eq ?_
      first | with_reducible exact or_s0 h1 hx | with_reducible exact or_s1 h1 hx | with_reducible exact or_s2 h1 hx | with_reducible exact or_s3 h1 hx
  case hdone =>
    rintro D W hD ⟨hb1, hb2, hB⟩ hK
    have hc := hb1.cell
    have hf := hb1.frozen
    gi_wp2
    refine leaves_mark2 rfl hK ?_
    exact ⟨ret_pair (int_eq (by rw [orP_pairs])) rfl, below_put hB (by simp at hD; omega) (Nat.le_refl _)⟩
  case hstop => exact fun _ _ _ _ _ _ h _ => h.elim
end Go.Proofs.YtcbihioflmfgjaaDoor
