/-
  What the functions of crc and of its reference compute (steps, sums, numbers as bytes). Conditions: strings are at most as long as Go allows.
-/
import Derived.Test.YtcbihioflmfgjaaDoorChecked
import Derived.Test.YtcbihioflmfgjaaDoorCrcM
import Derived.Test.YtcbihioflmfgjaaDoorStr
import Derived.Test.YtcbihioflmfgjaaDoorIter
import Derived.Lib.Hide
namespace Go.Proofs.YtcbihioflmfgjaaDoor
open Go.RowKit Go.Shelf Ros
attribute [local go_sem] Oper.semAt_some

theorem bit_T (x : Nat) (h : x < 4294967296) : bits .xor .u32 ((x : Int) / 2) (bits .and .u32 3988292384 (-bits .and .u32 (x : Int) 1 % 4294967296)) = ((Ros.T x : Nat) : Int) := by
  have h1 : bits .and .u32 (x : Int) 1 = ((x % 2 : Nat) : Int) := by
    have := u32_and_nat x 1 (by omega) (by omega)
    rw [show ((1 : Nat) : Int) = 1 from rfl] at this
    rw [this, Nat.and_one_is_mod]
  rw [h1, show (x : Int) / 2 = ((x / 2 : Nat) : Int) by omega]
  by_cases hx : x % 2 = 1
  · have h2 : (-((x % 2 : Nat) : Int)) % 4294967296 = ((4294967295 : Nat) : Int) := by omega
    rw [h2]
    have h3 := u32_and_nat 3988292384 4294967295 (by omega) (by omega)
    rw [show ((3988292384 : Nat) : Int) = 3988292384 from rfl] at h3
    rw [h3, show (3988292384 &&& 4294967295 : Nat) = 3988292384 by decide]
    rw [u32_xor_nat _ _ (by omega) (by omega)]
    unfold T; rw [if_pos hx]
  · have h2 : (-((x % 2 : Nat) : Int)) % 4294967296 = ((0 : Nat) : Int) := by omega
    rw [h2]
    have h3 := u32_and_nat 3988292384 0 (by omega) (by omega)
    rw [show ((3988292384 : Nat) : Int) = 3988292384 from rfl] at h3
    rw [h3, Nat.and_zero, u32_xor_nat _ _ (by omega) (by omega), Nat.xor_zero]
    unfold T; rw [if_neg hx]

theorem Tn_succ' (k x : Nat) : Tn (k + 1) x = T (Tn k x) := by rw [Tn_add]; rfl

set_option maxHeartbeats 400000 in
theorem step_any (s b : Nat) (w : World) (hs : s < 4294967296) (hb : b < 256) :
    Calls Tryd.prog 53 #[.int .u32 (s : Int), .int .u8 (b : Int)] w fun e w' => e = .returned (.int .u32 ((Ros.step s b : Nat) : Int)) ∧ w = w' := by
  go_enter Tryd.func53, Tryd.ntmps53
  go_wp2
  go_loop [0, 10] (fun s' i => ∃ k : Nat, k ≤ 8 ∧ i = .int .i64 k ∧ s' = .int .u32 ((Ros.Tn k (s ^^^ b) : Nat) : Int)) (fun _ i => 8 - (intOf i).toNat)
  case atStart => exact ⟨0, by omega, rfl, by rw [u32_xor_nat s b hs (by omega)]; rfl⟩
  case round =>
    obtain ⟨k, hk, rfl, rfl⟩ := hrel
    have hlt32 := Tn_lt k (x := s ^^^ b) (Nat.xor_lt_two_pow (n := 32) hs (by omega))
    have HT := Lib.hid (bit_T (Tn k (s ^^^ b)) hlt32)
    by_cases hlt : k < 8
    · go_wp2
      go_round
      case rel => exact ⟨k + 1, by omega, by go_num, by rw [HT.out, Tn_succ']⟩
      case measure => simp [intOf]; omega
    · obtain rfl : k = 8 := by omega
      go_wp2
      go_ret
      exact ⟨ret_int (by rw [step_def]), rfl⟩

theorem par_T (x : Nat) (h : x < 4294967296) (h1 : x % 2 = 1) : bits .xor .u32 ((x : Int) / 2) 3988292384 = ((Ros.T x : Nat) : Int) := by
  rw [show (x : Int) / 2 = ((x / 2 : Nat) : Int) by omega, show (3988292384 : Int) = ((3988292384 : Nat) : Int) from rfl, u32_xor_nat _ _ (by omega) (by omega)]
  unfold T; rw [if_pos h1]
theorem par_F (x : Nat) (h1 : ¬ x % 2 = 1) : ((x : Int) / 2) = ((Ros.T x : Nat) : Int) := by
  unfold T; rw [if_neg h1]; omega

set_option maxHeartbeats 400000 in
theorem refstep_any (s b : Nat) (w : World) (hs : s < 4294967296) (hb : b < 256) :
    Calls Tryd.prog 48 #[.int .u32 (s : Int), .int .u8 (b : Int)] w fun e w' => e = .returned (.int .u32 ((Ros.step s b : Nat) : Int)) ∧ w = w' := by
  go_enter Tryd.func48, Tryd.ntmps48
  go_wp2
  go_loop [0, 5] (fun s' i => ∃ k : Nat, k ≤ 8 ∧ i = .int .i64 k ∧ s' = .int .u32 ((Ros.Tn k (s ^^^ b) : Nat) : Int)) (fun _ i => 8 - (intOf i).toNat)
  case atStart => exact ⟨0, by omega, rfl, by rw [u32_xor_nat s b hs (by omega)]; rfl⟩
  case round =>
    obtain ⟨k, hk, rfl, rfl⟩ := hrel
    have hlt32 := Tn_lt k (x := s ^^^ b) (Nat.xor_lt_two_pow (n := 32) hs (by omega))
    have HS := Lib.hid (Tn_succ' k (s ^^^ b))
    generalize hX : Tn k (s ^^^ b) = x at *
    have HX := Lib.hid hX
    clear hX
    by_cases hlt : k < 8
    · by_cases hx : x % 2 = 1
      · have HT := Lib.hid (par_T x hlt32 hx)
        have hx' : ((x : Int) % 2 == 1) = true := by simp; omega
        clear hx
        go_wp2
        go_round
        case rel => exact ⟨k + 1, by omega, by go_num, by rw [HT.out, HS.out]⟩
        case measure => simp [intOf]; omega
      · have HT := Lib.hid (par_F x hx)
        have hx' : ((x : Int) % 2 == 1) = false := by simp; omega
        clear hx
        go_wp2
        go_round
        case rel => exact ⟨k + 1, by omega, by go_num, by rw [HT.out, HS.out]⟩
        case measure => simp [intOf]; omega
    · obtain rfl : k = 8 := by omega
      go_wp2
      go_ret
      exact ⟨ret_int (by rw [step_def, HX.out]), rfl⟩

/-- A string's bytes with their places. -/
def pairs (l : List UInt8) : List (Nat × UInt8) := (List.range l.length).map fun i => (i, l.getD i 0)
theorem pairs_split (l : List UInt8) (k : Nat) (h : k < l.length) : pairs l = (pairs l).take k ++ (k, l.getD k 0) :: (pairs l).drop (k + 1) ∧ (pairs l).take k ++ [(k, l.getD k 0)] = (pairs l).take (k + 1) := by
  have hl : k < (pairs l).length := by simpa [pairs] using h
  have he : (pairs l)[k] = (k, l.getD k 0) := by simp [pairs]
  refine ⟨?_, ?_⟩
  · rw [← he, List.getElem_cons_drop, List.take_append_drop]
  · rw [← he, List.take_append_getElem]
theorem pairs_mid (l : List UInt8) (pre : List (Nat × UInt8)) (x : Nat × UInt8) (post : List (Nat × UInt8)) (h : pairs l = pre ++ x :: post) :
    pre.length < l.length ∧ x = (pre.length, l.getD pre.length 0) ∧ pre = (pairs l).take pre.length := by
  have hl : (pairs l).length = l.length := by simp [pairs]
  have h1 : pre.length < (pairs l).length := by rw [h]; simp
  refine ⟨by omega, ?_, by rw [h]; simp⟩
  have h2 : (pairs l)[pre.length]'h1 = x := by simp [h]
  rw [← h2]; simp [pairs]
def encP (x : Nat × UInt8) : Array Value := #[.int .i64 (x.1 : Int), .int .u8 (x.2.toNat : Int)]

set_option maxRecDepth 100000 in
set_option maxHeartbeats 1000000 in
theorem each1_iter (Bs : Nat) (s : ByteArray) (hs : s.size ≤ maxLen) :
    IterOn Tryd.prog 45 #[.pointer (some ⟨Bs, 0, none⟩)] encP (fun _ W => W.cell? ⟨Bs, 0, none⟩ = some (.string s)) (pairs (bl s)) := by
  intro l J Jx W gJ gJx hRd hY h0
  unfold maxLen at hs
  have hc0 := hRd _ _ h0
  refine callsIn_of_wp Tryd.func45 rfl trivial ?_ rfl
  simp only [Tryd.ntmps45, List.size_toArray, List.length_cons, List.length_nil, Nat.reduceAdd, Nat.reduceSub, Array.replicate_succ, Array.replicate_zero, List.push_toArray, List.append_toArray, List.nil_append, List.cons_append]
  gi_wp2
  gi_loopw [6] (fun i wr => ∃ k : Nat, k ≤ s.size ∧ i = .int .i64 k ∧ J ((pairs (bl s)).take k) wr) (fun i _ => s.size - (intOf i).toNat)
  case atStart => exact ⟨0, by omega, rfl, by simpa using h0⟩
  case round =>
    obtain ⟨k, hk, rfl, hj⟩ := hrel
    have hc := hRd _ _ hj
    by_cases hlt : k < s.size
    · have hsp := pairs_split (bl s) k (by rw [← size_bl]; exact hlt)
      obtain ⟨fn, tmps, assign, body, hy, hR⟩ := hY _ _ _ wr hsp.1 hj
      have hge := bl_getD s k hlt
      unfold encP at hy
      dsimp only at hy
      rw [← hge] at hy
      rw [hsp.2] at hR
      clear hsp hge
      gi_wp2
      refine hR.mono ?_
      rintro e W3 (⟨rfl, hJ3⟩ | ⟨rfl, hJx3⟩)
      · gi_wp2
        go_roundw
        case rel => exact ⟨k + 1, by omega, by go_num, hJ3⟩
        case measure => simp [intOf]; omega
      · gi_wp2
        refine bodyPost_ret (results_none rfl _ _ _) rfl ?_
        exact ⟨⟨_, rfl⟩, .inr ⟨_, List.take_prefix _ _, hJx3⟩⟩
    · obtain rfl : k = s.size := by omega
      gi_wp2
      go_end0
      refine ⟨⟨_, rfl⟩, .inl ?_⟩
      rw [List.take_of_length_le (by simp [pairs, size_bl])] at hj
      exact hj

theorem each_any (s : ByteArray) (w : World) :
    Calls Tryd.prog 37 #[.string s] w fun e w' => e = .returned (.func (.func 45) #[] #[.pointer (some ⟨w.heap.size, 0, none⟩)]) ∧ w.alloc (.cells #[.string s] 9) = w' := by
  go_enter Tryd.func37, Tryd.ntmps37
  go_wp2
  go_ret
  exact ⟨rfl, rfl⟩

/-- What is xor'ed with all bits. -/
theorem not_u32 (n : Nat) (h : n < 4294967296) : bits .xor .u32 4294967295 (n : Int) = ((4294967295 ^^^ n : Nat) : Int) := by
  rw [show (4294967295 : Int) = ((4294967295 : Nat) : Int) from rfl, u32_xor_nat _ _ (by omega) h]
theorem xor_lt (a b : Nat) (ha : a < 4294967296) (hb : b < 4294967296) : a ^^^ b < 4294967296 := Nat.xor_lt_two_pow (n := 32) ha hb

def runP (s : Nat) (l : List (Nat × UInt8)) : Nat := run s (l.map (·.2))
theorem runP_snoc (s : Nat) (l : List (Nat × UInt8)) (x : Nat × UInt8) : runP s (l ++ [x]) = Ros.step (runP s l) x.2.toNat := by
  simp [runP, run_append, run]
theorem runP_pairs (s : Nat) (l : List UInt8) : runP s (pairs l) = run s l := by
  unfold runP pairs
  congr 1
  apply List.ext_getElem
  · simp
  · intro i h1 h2
    simp [h2]
theorem runP_lt (s : Nat) (h : s < 4294967296) (l : List (Nat × UInt8)) : runP s l < 4294967296 := run_lt _ h

set_option maxRecDepth 100000 in
set_option maxHeartbeats 1000000 in
theorem more_any (n : Nat) (s : ByteArray) (w : World) (hn : n < 4294967296) (hs : s.size ≤ maxLen) :
    Calls Tryd.prog 46 #[.int .u32 (n : Int), .string s] w fun e w' => e = .returned (.int .u32 ((more n (bl s) : Nat) : Int)) ∧ Below w.heap.size w w' := by
  refine calls_marks Tryd.func46 rfl ?_
  simp only [Tryd.ntmps46, List.size_toArray, List.length_cons, List.length_nil, Nat.reduceAdd, Nat.reduceSub, Array.replicate_succ, Array.replicate_zero, List.push_toArray, List.append_toArray, List.nil_append, List.cons_append]
  have hnot := not_u32 n hn
  gi_wp2_with (gi_at_call 37; refine (in_wide _ (each_any _ _)).mono ?_; rintro e w' ⟨rfl, rfl⟩)
  refine range_law (gf := 45) (lb := #[.pointer (some ⟨w.heap.size + 1, 0, none⟩)]) rfl (enters_of Tryd.func45 (by kernel_rfl) rfl) (each1_iter (w.heap.size + 1) s hs) (fun _ => rfl)
    (fun pre W => Boxed W w.heap.size 22 (.int .u32 ((runP (4294967295 ^^^ n) pre : Nat) : Int)) ∧ Boxed W (w.heap.size + 1) 9 (.string s) ∧ Below w.heap.size w W)
    (fun _ _ _ => False) (OwnFrom.and (own_box _ _ _ _) (OwnFrom.and (own_box _ _ _ _) (own_below (Nat.le_refl _) (by simp; omega)))) own_false (fun _ _ h => h.2.1.cell) ?h0 ?hround ?hdone ?hstop
  case h0 =>
    refine ⟨(Boxed.new _ _ _).alloc _, ?_, ((Below.refl _ w).alloc (Nat.le_refl _) _).alloc (by simp) _⟩
    have h := Boxed.new (w.alloc (.cells #[.int .u32 ((4294967295 ^^^ n : Nat) : Int)] 22)) 9 (.string s)
    simpa using h
  case hround =>
    rintro l pre x post W hxs hl hlW ⟨hb1, hb2, hB⟩
    dsimp only [encP]
    gi_wp2
    refine ⟨KeepsFrom.refl _ _, ⟨hb1, hb2, hB⟩, ?_⟩
    rintro W2 hg hsz ⟨hc1, hc2, hB2⟩
    have hc := hc1.cell
    have hf := hc1.frozen
    have hr := runP_lt (4294967295 ^^^ n) (xor_lt _ _ (by omega) hn) pre
    have hx := x.2.toNat_lt
    gi_wp2_with (gi_at_call 53; refine (in_round l _ (step_any _ _ _ hr (by omega))).mono ?_; rintro e w' ⟨rfl, rfl⟩)
    exact ⟨keeps_set _ _ _, by rw [runP_snoc]; exact hc1.set _, hc2.other (by omega) _, hB2.setCell (p := ⟨w.heap.size, 0, none⟩) (Nat.le_refl _) _⟩
  case hdone =>
    rintro D W hD ⟨hb1, hb2, hB⟩ hK
    have hc := hb1.cell
    have hf := hb1.frozen
    have hr := runP_lt (4294967295 ^^^ n) (xor_lt _ _ (by omega) hn) (pairs (bl s))
    have hnot2 := not_u32 _ hr
    gi_wp2
    refine leaves_mark1 rfl hK ?_
    exact ⟨ret_int (by rw [runP_pairs, more_def]), below_put hB (by simp at hD; omega) (Nat.le_refl _)⟩
  case hstop => exact fun _ _ _ _ _ _ h _ => h.elim
end Go.Proofs.YtcbihioflmfgjaaDoor
