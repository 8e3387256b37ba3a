/-
  The laws on check sums, walked: each returns true and leaves what was there as it was. Conditions: arguments are as the row reads them.
-/
import Derived.Test.YtnnakdpfbiahkaaCrcP
namespace Go.Proofs.Ytnnakdpfbiahkaa
open Go.RowKit Go.Shelf Ros

theorem bt {a b c : World} (h : Below a.heap.size a b) (k : Below b.heap.size b c) : Below a.heap.size a c := h.trans (k.mono h.size)

/-- The first k bytes. -/
def cutB (k : Nat) (s : ByteArray) : ByteArray := s.extract 0 (min s.size k)
theorem cutB_size (k : Nat) (s : ByteArray) : (cutB k s).size ≤ k := by
  unfold cutB; rw [size_bl, bl_extract0, List.length_take]; omega
theorem cutB_long (k : Nat) (s : ByteArray) (h : k < s.size) : cutB k s = s.extract 0 k := by unfold cutB; rw [Nat.min_eq_right (by omega)]
theorem cutB_short (k : Nat) (s : ByteArray) (h : s.size ≤ k) : cutB k s = s := by
  unfold cutB; rw [Nat.min_eq_left h]
  apply bl_inj
  rw [bl_extract0, size_bl, List.take_length]
theorem cutB_max (s : ByteArray) : (cutB 3000 s).size ≤ maxLen := Nat.le_trans (cutB_size _ _) (by decide)
theorem cutB_big (s : ByteArray) : (cutB 3000 s).size ≤ 140737488355328 := Nat.le_trans (cutB_size _ _) (by decide)

set_option maxHeartbeats 400000 in
theorem cut_any (s : ByteArray) (w : World) (hs : s.size ≤ maxLen) :
    Calls Try.prog 15 #[.string s] w fun e w' => e = .returned (.string (cutB 3000 s)) ∧ w = w' := by
  unfold maxLen at hs
  go_enter Try.func15, Try.ntmps15
  by_cases h : 3000 < s.size
  · have HE := Lib.hid (cutB_long 3000 s h)
    have h' : ¬ (s.size : Int) ≤ 3000 := by omega
    go_wp2
    go_ret
    exact ⟨by rw [HE.out]; rfl, rfl⟩
  · have HE := Lib.hid (cutB_short 3000 s (by omega))
    have h' : (s.size : Int) ≤ 3000 := by omega
    go_wp2
    go_ret
    exact ⟨by rw [HE.out]; rfl, rfl⟩

set_option maxHeartbeats 400000 in
theorem shown_any (w : World) :
    Calls Try.prog 11 #[] w fun e w' => e = .returned (.bool true) ∧ Below w.heap.size w w' := by
  have h9 : sum (bl ⟨#[49, 50, 51, 52, 53, 54, 55, 56, 57]⟩) = 3421780262 := by decide +kernel
  have h0 : str (bl ⟨#[]⟩ ++ toB 4 (sum (bl ⟨#[]⟩))) = ⟨#[0, 0, 0, 0]⟩ := by decide +kernel
  go_enter Try.func11, Try.ntmps11
  go_wp2_with (first | (go_at_call 19; refine (get_no _ _ (by decide)).mono ?_; rintro e w1 ⟨rfl, hb1⟩) | (go_at_call 14; refine (sum_any _ _ (by decide)).mono ?_; rintro e w2 ⟨rfl, hb2⟩) | (go_at_call 25; refine (seal_any _ _ (by decide)).mono ?_; rintro e w3 ⟨rfl, hb3⟩))
  go_ret
  exact ⟨rfl, bt (bt hb1 hb2) hb3⟩

set_option maxRecDepth 100000 in
set_option maxHeartbeats 1000000 in
theorem crcSums_walk (n b : Nat) (s : ByteArray) (hn : n < 4294967296) (hb : b < 256) (hs : s.size ≤ maxLen) (w : World) :
    Calls Try.prog 3 #[.int .u32 (n : Int), .int .u8 (b : Int), .string s] w fun e w' => e = .returned (.bool true) ∧ Below w.heap.size w w' := by
  go_enter Try.func3, Try.ntmps3
  go_wp2_with (first | (go_at_call 11; refine (shown_any _).mono ?_; rintro e w1 ⟨rfl, hb1⟩) | (go_at_call 12; refine (step_any n b _ hn hb).mono ?_; rintro e w2 ⟨rfl, rfl⟩) | (go_at_call 13; refine (refstep_any n b _ hn hb).mono ?_; rintro e w2 ⟨rfl, rfl⟩) | (go_at_call 15; refine (cut_any s _ hs).mono ?_; rintro e w2 ⟨rfl, rfl⟩) | (go_at_call 14; refine (sum_any _ _ (cutB_max s)).mono ?_; rintro e w3 ⟨rfl, hb3⟩) | (go_at_call 16; refine (refsum_any _ _ (cutB_max s)).mono ?_; rintro e w3 ⟨rfl, rfl⟩) | (go_at_call 17; refine (more_any n _ _ hn (cutB_max s)).mono ?_; rintro e w4 ⟨rfl, hb4⟩) | (go_at_call 18; refine (refmore_any n _ _ hn (cutB_max s)).mono ?_; rintro e w5 ⟨rfl, rfl⟩))
  go_ret
  exact ⟨rfl, bt (bt hb1 hb3) hb4⟩

set_option maxRecDepth 100000 in
set_option maxHeartbeats 1000000 in
theorem crcSeals_walk (s : ByteArray) (n : Nat) (hn : n < 4294967296) (hs : s.size ≤ maxLen) (w : World) :
    Calls Try.prog 5 #[.string s, .int .u32 (n : Int)] w fun e w' => e = .returned (.bool true) ∧ Below w.heap.size w w' := by
  go_enter Try.func5, Try.ntmps5
  go_wp2_with (first | (go_at_call 11; refine (shown_any _).mono ?_; rintro e w1 ⟨rfl, hb1⟩) | (go_at_call 15; refine (cut_any s _ hs).mono ?_; rintro e w2 ⟨rfl, rfl⟩) | (go_at_call 19; refine (get_all _ _).mono ?_; rintro e w3 ⟨rfl, hb3⟩) | (go_at_call 20; refine (refget_all _ _).mono ?_; rintro e w4 ⟨rfl, hb4⟩) | (go_at_call 21; refine (open_all _ _ (cutB_max s)).mono ?_; rintro e w5 ⟨rfl, hb5⟩) | (go_at_call 22; refine (refopen_all _ _ (cutB_max s)).mono ?_; rintro e w6 ⟨rfl, hb6⟩) | (go_at_call 23; refine (put_any n _ hn).mono ?_; rintro e w7 ⟨rfl, hb7⟩) | (go_at_call 24; refine (refput_any n _ hn).mono ?_; rintro e w8 ⟨rfl, hb8⟩) | (go_at_call 25; refine (seal_any _ _ (cutB_big s)).mono ?_; rintro e w9 ⟨rfl, hb9⟩) | (go_at_call 26; refine (refseal_any _ _ (cutB_big s)).mono ?_; rintro e w10 ⟨rfl, hb10⟩))
  go_ret
  exact ⟨rfl, bt (bt (bt (bt (bt (bt (bt (bt hb1 hb3) hb4) hb5) hb6) hb7) hb8) hb9) hb10⟩

set_option maxRecDepth 100000 in
set_option maxHeartbeats 1000000 in
theorem crcBack_walk (s : ByteArray) (n : Nat) (hn : n < 4294967296) (hs : s.size ≤ maxLen) (w : World) :
    Calls Try.prog 6 #[.string s, .int .u32 (n : Int)] w fun e w' => e = .returned (.bool true) ∧ Below w.heap.size w w' := by
  have hz : (str (bl (cutB 3000 s) ++ toB 4 (sum (bl (cutB 3000 s))))).size ≤ maxLen := by
    rw [size_str, List.length_append, toB_length, ← size_bl]
    have := cutB_size 3000 s
    unfold maxLen; omega
  have ho : openB (bl (str (bl (cutB 3000 s) ++ toB 4 (sum (bl (cutB 3000 s)))))) = true := (open_seal _).1
  have hl : str (openL (bl (str (bl (cutB 3000 s) ++ toB 4 (sum (bl (cutB 3000 s))))))) = cutB 3000 s := by rw [bl_str]; rw [show bl (cutB 3000 s) ++ toB 4 (sum (bl (cutB 3000 s))) = seal4 (bl (cutB 3000 s)) from rfl, (open_seal _).2, str_bl]
  have hg1 : getN (bl (str (toB 4 n))) = n := (getN_put n hn).1
  have hg2 : getE (bl (str (toB 4 n))) = 0 := (getN_put n hn).2
  have hlen : (bl (cutB 3000 s) ++ toB 4 (sum (bl (cutB 3000 s)))).length = (cutB 3000 s).size + 4 := by rw [List.length_append, toB_length, ← size_bl]
  have hc := cutB_size 3000 s
  go_enter Try.func6, Try.ntmps6
  go_wp2_with (first | (go_at_call 11; refine (shown_any _).mono ?_; rintro e w1 ⟨rfl, hb1⟩) | (go_at_call 15; refine (cut_any s _ hs).mono ?_; rintro e w2 ⟨rfl, rfl⟩) | (go_at_call 19; refine (get_all _ _).mono ?_; rintro e w3 ⟨rfl, hb3⟩) | (go_at_call 21; refine (open_all _ _ hz).mono ?_; rintro e w5 ⟨rfl, hb5⟩) | (go_at_call 23; refine (put_any n _ hn).mono ?_; rintro e w7 ⟨rfl, hb7⟩) | (go_at_call 25; refine (seal_any _ _ (cutB_big s)).mono ?_; rintro e w9 ⟨rfl, hb9⟩))
  go_ret
  refine ⟨rfl, ?_⟩
  repeat (first | assumption | (apply bt; rotate_left; assumption))

set_option maxRecDepth 100000 in
set_option maxHeartbeats 1000000 in
theorem crcParts_walk (s t : ByteArray) (hs : s.size ≤ maxLen) (ht : t.size ≤ maxLen) (w : World) :
    Calls Try.prog 4 #[.string s, .string t] w fun e w' => e = .returned (.bool true) ∧ Below w.heap.size w w' := by
  have hPM : ∀ x y : ByteArray, more (sum (bl x)) (bl y) = sum (bl (x ++ y)) := fun x y => by rw [sum_def, sum_def, more_more, bl_append]
  have hE : ∀ x : ByteArray, x ++ (⟨#[]⟩ : ByteArray) = x := fun x => by apply bl_inj; rw [bl_append]; simp [bl]
  have hq : ∀ x : ByteArray, sum (bl x) < 4294967296 := fun x => sum_lt _
  have e1 : (s.extract 0 1500).size ≤ 1500 := by rw [size_bl, bl_extract0, List.length_take]; omega
  have e2 : (t.extract 0 1500).size ≤ 1500 := by rw [size_bl, bl_extract0, List.length_take]; omega
  unfold maxLen at hs ht
  have k : s.size ≤ 1500 ∨ 1500 < s.size := by omega
  have k' : t.size ≤ 1500 ∨ 1500 < t.size := by omega
  rcases k with k | k
  all_goals
    rcases k' with k' | k'
    all_goals
      go_enter Try.func4, Try.ntmps4
      go_wp2_with (first | (go_at_call 11; refine (shown_any _).mono ?_; rintro e w1 ⟨rfl, hb1⟩) | (go_at_call 14; refine (sum_any _ _ (by first | (unfold maxLen; omega) | (rw [ByteArray.size_append']; unfold maxLen; omega))).mono ?_; rintro e w3 ⟨rfl, hb3⟩) | (go_at_call 17; refine (more_any _ _ _ (hq _) (by first | (unfold maxLen; omega) | (unfold maxLen; decide))).mono ?_; rintro e w4 ⟨rfl, hb4⟩))
      go_ret
      refine ⟨rfl, ?_⟩
      repeat (first | assumption | (apply bt; rotate_left; assumption))

set_option maxRecDepth 100000 in
set_option maxHeartbeats 1000000 in
theorem crcChanges_walk (s : ByteArray) (bit : Int) (mask : Nat) (hs : s.size ≤ maxLen) (hl1 : -9223372036854775808 ≤ bit) (hl2 : bit ≤ 9223372036854775807) (hm : mask < 4294967296) (w : World) :
    Calls Try.prog 7 #[.string s, .int .i64 bit, .int .u32 (mask : Int)] w fun e w' => e = .returned (.bool true) ∧ Below w.heap.size w w' := by
  go_enter Try.func7, Try.ntmps7
  go_wp2_with (first | (go_at_call 11; refine (shown_any _).mono ?_; rintro e w1 ⟨rfl, hb1⟩) | (go_at_call 15; refine (cut_any s _ hs).mono ?_; rintro e w2 ⟨rfl, rfl⟩) | (go_at_call 27; refine (change_all _ bit mask _ (cutB_big s) hm hl1 hl2).mono ?_; rintro e w3 ⟨rfl, hb3⟩) | (go_at_call 28; refine (refchange_all _ bit mask _ (cutB_big s) hm hl1 hl2).mono ?_; rintro e w4 ⟨rfl, hb4⟩))
  go_ret
  refine ⟨rfl, ?_⟩
  repeat (first | assumption | (apply bt; rotate_left; assumption))

set_option maxRecDepth 100000 in
set_option maxHeartbeats 1000000 in
theorem crcTwice_walk (s : ByteArray) (bit : Int) (mask : Nat) (hs : s.size ≤ maxLen) (hl1 : -9223372036854775808 ≤ bit) (hl2 : bit ≤ 9223372036854775807) (hm : mask < 4294967296) (w : World) :
    Calls Try.prog 8 #[.string s, .int .i64 bit, .int .u32 (mask : Int)] w fun e w' => e = .returned (.bool true) ∧ Below w.heap.size w w' := by
  cases hk : okBit (bl (cutB 3000 s)).length bit with
  | false =>
    have h1 := (chgL_no (mask := mask) hk).1
    have h2 := (chgL_no (mask := mask) hk).2
    have he : (str []).toList.isEmpty = true := by rw [toList_bl, bl_str]; rfl
    clear hk
    go_enter Try.func8, Try.ntmps8
    go_wp2_with (first | (go_at_call 11; refine (shown_any _).mono ?_; rintro e w1 ⟨rfl, hb1⟩) | (go_at_call 15; refine (cut_any s _ hs).mono ?_; rintro e w2 ⟨rfl, rfl⟩) | (go_at_call 27; refine (change_all _ bit mask _ (cutB_big s) hm hl1 hl2).mono ?_; rintro e w3 ⟨rfl, hb3⟩))
    go_ret
    refine ⟨rfl, ?_⟩
    repeat (first | assumption | (apply bt; rotate_left; assumption))
  | true =>
    have h1 := (chgL_yes (mask := mask) hk).1
    have h2 := (chgL_yes (mask := mask) hk).2
    have hlen : (chg (bl (cutB 3000 s)) bit.toNat mask).length = (cutB 3000 s).size := by rw [chg_length, size_bl]
    have hz : (str (chg (bl (cutB 3000 s)) bit.toNat mask)).size ≤ 140737488355328 := by rw [size_str, hlen]; exact cutB_big s
    have hk2 : okBit (bl (str (chg (bl (cutB 3000 s)) bit.toNat mask))).length bit = true := by rw [bl_str, chg_length]; exact hk
    have h3 : str (chgL (bl (str (chg (bl (cutB 3000 s)) bit.toNat mask))) bit mask) = cutB 3000 s := by rw [(chgL_yes (mask := mask) hk2).1, bl_str, chg_twice, str_bl]
    have h4 := (chgL_yes (mask := mask) hk2).2
    clear hk hk2
    go_enter Try.func8, Try.ntmps8
    go_wp2_with fail
    refine (shown_any _).mono ?_
    rintro e w1 ⟨rfl, hb1⟩
    go_wp2_with fail
    refine (cut_any s _ hs).mono ?_
    rintro e w2 ⟨rfl, rfl⟩
    go_wp2_with fail
    refine (change_all _ bit mask _ (cutB_big s) hm hl1 hl2).mono ?_
    rintro e w3 ⟨rfl, hb3⟩
    go_wp2_with fail
    refine (change_all _ bit mask _ hz hm hl1 hl2).mono ?_
    rintro e w4 ⟨rfl, hb4⟩
    go_wp2_with fail
    go_ret
    refine ⟨rfl, ?_⟩
    repeat (first | assumption | (apply bt; rotate_left; assumption))

set_option maxRecDepth 100000 in
set_option maxHeartbeats 1000000 in
theorem crcBit_walk (s : ByteArray) (bit : Int) (hs : s.size ≤ maxLen) (hl1 : -9223372036854775808 ≤ bit) (hl2 : bit ≤ 9223372036854775807) (w : World) :
    Calls Try.prog 9 #[.string s, .int .i64 bit] w fun e w' => e = .returned (.bool true) ∧ Below w.heap.size w w' := by
  have hm : (1 : Nat) < 4294967296 := by omega
  cases hk : okBit (bl (cutB 3000 s)).length bit with
  | false =>
    have h2 := (chgL_no (mask := 1) hk).2
    clear hk
    go_enter Try.func9, Try.ntmps9
    go_wp2_with (first | (go_at_call 11; refine (shown_any _).mono ?_; rintro e w1 ⟨rfl, hb1⟩) | (go_at_call 15; refine (cut_any s _ hs).mono ?_; rintro e w2 ⟨rfl, rfl⟩) | (go_at_call 27; refine (change_all _ bit 1 _ (cutB_big s) hm hl1 hl2).mono ?_; rintro e w3 ⟨rfl, hb3⟩))
    go_ret
    refine ⟨rfl, ?_⟩
    repeat (first | assumption | (apply bt; rotate_left; assumption))
  | true =>
    have h1 := (chgL_yes (mask := 1) hk).1
    have h2 := (chgL_yes (mask := 1) hk).2
    have hlen : (chg (bl (cutB 3000 s)) bit.toNat 1).length = (cutB 3000 s).size := by rw [chg_length, size_bl]
    have hz : (str (chg (bl (cutB 3000 s)) bit.toNat 1)).size ≤ maxLen := by rw [size_str, hlen]; exact cutB_max s
    rw [okBit_iff] at hk
    have hlt : bit.toNat < 8 * (bl (cutB 3000 s)).length := by omega
    have hne := chg_one (bl (cutB 3000 s)) bit.toNat hlt
    have h3 : ((str (chg (bl (cutB 3000 s)) bit.toNat 1)).toList == (cutB 3000 s).toList) = false := by
      rw [toList_bl, toList_bl, bl_str]; exact beq_eq_false_iff_ne.2 hne
    have h4 : (((sum (chg (bl (cutB 3000 s)) bit.toNat 1) : Nat) : Int) != ((sum (bl (cutB 3000 s)) : Nat) : Int)) = true := by
      have := sum_chg (bl (cutB 3000 s)) bit.toNat 1 (by omega) hlt hne
      rw [bne_iff_ne]; omega
    have h5 : bl (str (chg (bl (cutB 3000 s)) bit.toNat 1)) = chg (bl (cutB 3000 s)) bit.toNat 1 := rfl
    clear hk hlt hne
    have H4 := Lib.hid h4
    clear h4
    go_enter Try.func9, Try.ntmps9
    go_wp2_with fail
    refine (shown_any _).mono ?_
    rintro e w1 ⟨rfl, hb1⟩
    go_wp2_with fail
    refine (cut_any s _ hs).mono ?_
    rintro e w2 ⟨rfl, rfl⟩
    go_wp2_with fail
    refine (change_all _ bit 1 _ (cutB_big s) hm hl1 hl2).mono ?_
    rintro e w3 ⟨rfl, hb3⟩
    go_wp2_with fail
    refine (sum_any _ _ hz).mono ?_
    rintro e w4 ⟨rfl, hb4⟩
    go_wp2_with fail
    refine (sum_any _ _ (cutB_max s)).mono ?_
    rintro e w5 ⟨rfl, hb5⟩
    have h4 := H4.out
    generalize sum (chg (bl (cutB 3000 s)) bit.toNat 1) = p at *
    generalize sum (bl (cutB 3000 s)) = q at *
    clear H4 h1 h5 hlen hz
    go_wp2_with fail
    go_ret
    refine ⟨rfl, ?_⟩
    repeat (first | assumption | (apply bt; rotate_left; assumption))

theorem sealB_big (s : ByteArray) : (str (seal4 (bl (cutB 3000 s)))).size ≤ 140737488355328 := by
  rw [size_str, seal4_length, ← size_bl]; have := cutB_size 3000 s; omega

set_option maxRecDepth 100000 in
set_option maxHeartbeats 1000000 in
theorem crcFinds_walk (s : ByteArray) (bit : Int) (mask : Nat) (hs : s.size ≤ maxLen) (hl1 : -9223372036854775808 ≤ bit) (hl2 : bit ≤ 9223372036854775807) (hm : mask < 4294967296) (w : World) :
    Calls Try.prog 10 #[.string s, .int .i64 bit, .int .u32 (mask : Int)] w fun e w' => e = .returned (.bool true) ∧ Below w.heap.size w w' := by
  have hS : str (bl (cutB 3000 s) ++ toB 4 (sum (bl (cutB 3000 s)))) = str (seal4 (bl (cutB 3000 s))) := rfl
  have hbig := sealB_big s
  have hlen4 := seal4_length (bl (cutB 3000 s))
  have hsl := sealed_seal4 (bl (cutB 3000 s))
  generalize hq : seal4 (bl (cutB 3000 s)) = q at *
  have HS := Lib.hid hS
  clear hS hq
  cases hk : okBit q.length bit with
  | false =>
    have h1 : chgL (bl (str q)) bit mask = [] := (chgL_no (mask := mask) hk).1
    have h2 : chgE (bl (str q)) bit = 2 := (chgL_no (mask := mask) hk).2
    rw [okBit_no] at hk
    have hcond : bit < 0 ∨ (0 ≤ bit ∧ 8 * (q.length : Int) ≤ bit) := by omega
    have hmax : q.length ≤ 140737488355328 := by rw [size_str] at hbig; exact hbig
    clear hk hlen4
    rcases hcond with hc | ⟨hc0, hc⟩
    all_goals
      go_enter Try.func10, Try.ntmps10
      go_wp2_with fail
      refine (shown_any _).mono ?_
      rintro e w1 ⟨rfl, hb1⟩
      go_wp2_with fail
      refine (cut_any s _ hs).mono ?_
      rintro e w2 ⟨rfl, rfl⟩
      go_wp2_with fail
      refine (seal_any _ _ (cutB_big s)).mono ?_
      rintro e w3 ⟨rfl, hb3⟩
      rw [HS.out]
      go_wp2_with fail
      refine (change_all _ bit mask _ hbig hm hl1 hl2).mono ?_
      rintro e w4 ⟨rfl, hb4⟩
      go_wp2_with fail
      go_ret
      refine ⟨rfl, ?_⟩
      repeat (first | assumption | (apply bt; rotate_left; assumption))
  | true =>
    have h1 : chgL (bl (str q)) bit mask = chg q bit.toNat mask := (chgL_yes (mask := mask) hk).1
    have h2 : chgE (bl (str q)) bit = 0 := (chgL_yes (mask := mask) hk).2
    rw [okBit_iff] at hk
    have hlt : bit.toNat < 8 * q.length := by omega
    have hz : (str (chg q bit.toNat mask)).size ≤ maxLen := by rw [size_str, chg_length, ← size_str]; unfold maxLen; omega
    have h4 : 4 ≤ q.length := by omega
    have hlc : (chg q bit.toNat mask).length = q.length := chg_length _ _ _
    by_cases hne : chg q bit.toNat mask = q
    · have hB : openB (bl (str q)) = true := by rw [openB_long (by rw [bl_str]; exact h4)]; exact hsl
      have heq : ((str q).toList == (str q).toList) = true := by simp
      have hzq : (str q).size ≤ maxLen := Nat.le_trans hbig (by decide)
      rw [hne] at h1
      clear hk hlt hz hlen4 hlc hne hsl
      go_enter Try.func10, Try.ntmps10
      go_wp2_with fail
      refine (shown_any _).mono ?_
      rintro e w1 ⟨rfl, hb1⟩
      go_wp2_with fail
      refine (cut_any s _ hs).mono ?_
      rintro e w2 ⟨rfl, rfl⟩
      go_wp2_with fail
      refine (seal_any _ _ (cutB_big s)).mono ?_
      rintro e w3 ⟨rfl, hb3⟩
      rw [HS.out]
      go_wp2_with fail
      refine (change_all _ bit mask _ hbig hm hl1 hl2).mono ?_
      rintro e w4 ⟨rfl, hb4⟩
      go_wp2_with fail
      refine (open_all _ _ hzq).mono ?_
      rintro e w5 ⟨rfl, hb5⟩
      go_wp2_with fail
      go_ret
      refine ⟨rfl, ?_⟩
      repeat (first | assumption | (apply bt; rotate_left; assumption))
    · have hB : openB (bl (str (chg q bit.toNat mask))) = false := by
        rw [openB_long (by rw [bl_str, hlc]; exact h4)]
        exact seal_found q hsl h4 _ _ hm hlt hne
      have hL : openL (bl (str (chg q bit.toNat mask))) = [] := openL_no hB
      have he : (str []).toList.isEmpty = true := by rw [toList_bl, bl_str]; rfl
      have heq : ((str (chg q bit.toNat mask)).toList == (str q).toList) = false := by
        rw [toList_bl, toList_bl, bl_str, bl_str]; exact beq_eq_false_iff_ne.2 hne
      clear hk hlt hlen4 hlc hne hsl
      go_enter Try.func10, Try.ntmps10
      go_wp2_with fail
      refine (shown_any _).mono ?_
      rintro e w1 ⟨rfl, hb1⟩
      go_wp2_with fail
      refine (cut_any s _ hs).mono ?_
      rintro e w2 ⟨rfl, rfl⟩
      go_wp2_with fail
      refine (seal_any _ _ (cutB_big s)).mono ?_
      rintro e w3 ⟨rfl, hb3⟩
      rw [HS.out]
      go_wp2_with fail
      refine (change_all _ bit mask _ hbig hm hl1 hl2).mono ?_
      rintro e w4 ⟨rfl, hb4⟩
      go_wp2_with fail
      refine (open_all _ _ hz).mono ?_
      rintro e w5 ⟨rfl, hb5⟩
      go_wp2_with fail
      go_ret
      refine ⟨rfl, ?_⟩
      repeat (first | assumption | (apply bt; rotate_left; assumption))
end Go.Proofs.Ytnnakdpfbiahkaa
