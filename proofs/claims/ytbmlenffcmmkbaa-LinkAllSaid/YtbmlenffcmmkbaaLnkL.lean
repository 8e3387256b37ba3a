/-
  The laws of link: LinkNone. Conditions: numbers are as the program's types allow.
-/
import Derived.Test.YtbmlenffcmmkbaaLnkK
namespace Ros
open Go Go.RowKit
theorem lsend_yes (s : Lk) (d : ByteArray) (h1 : d.size ≤ 4096) (h2 : (s.outs.length : Int) < s.window) (h3 : s.next ≠ 4294967295) : lsend s d = (0, { s with outs := s.outs ++ [d] }) := by
  unfold lsend
  rw [if_pos h1, if_neg (by rintro (e | e); omega; exact h3 e)]
theorem lsend_long (s : Lk) (d : ByteArray) (h1 : ¬ d.size ≤ 4096) : lsend s d = (2, s) := by
  unfold lsend
  rw [if_neg h1]
theorem lrecv_new (s : Lk) (life : Nat) (d : ByteArray) (h : s.peerLife < life) : lrecv s life 1 d = ([d], [lframe { s with peerLife := life, waits := 2 } 2 life 0 ⟨#[]⟩], { s with peerLife := life, waits := 2 }) := by
  have hc : lcome s life 1 = (true, true, { s with peerLife := life, waits := 2 }) := by
    unfold lcome
    rw [if_neg (by omega), if_pos h, if_pos rfl]
  unfold lrecv
  rw [hc]
  rfl
theorem lrecv_old (s : Lk) (life seq : Nat) (d : ByteArray) (h : life < s.peerLife) : lrecv s life seq d = ([], [], s) := by
  have hc : lcome s life seq = (false, false, s) := by
    unfold lcome
    rw [if_pos h]
  unfold lrecv
  rw [hc]
  rfl
theorem madeL_zeros (n : Nat) : madeCells #[Value.int .u8 0] n = cellsOf (List.replicate n 0) := by
  apply Array.ext_getElem?
  intro j
  by_cases hj : j < n
  · simp [madeCells, cellsOf, hj, Nat.mod_one]
  · simp [madeCells, cellsOf, hj]
end Ros
namespace Go.Proofs.Ytbmlenffcmmkbaa
open Go.RowKit Go.Shelf Ros Go.Maps
attribute [local go_sem] Oper.semAt_some
set_option linter.unusedVariables false
theorem u8L_info : (Try.prog.info? 5).map (fun i => (i.zero, i.size, i.bytes)) = some (some (.int .u8 0), 1, 1) := by kernel_rfl
theorem makeL_zeros (n : Nat) (hn : n ≤ 1000000) (W : World) :
    (Instr.makeSlice 42 (.int .i64 (n : Int)) (.int .i64 (n : Int))).run Try.prog W = .ok (.slice (some ⟨W.heap.size, 0, none⟩) n n) (W.alloc (.cells (cellsOf (List.replicate n 0)) 5)) := by
  obtain ⟨i0, hi0, hz0, hz1, hz2⟩ := info_parts u8L_info
  have h := run_make (P := Try.prog) W 42 5 i0 (.int .u8 0) Try.underlying42 hi0 hz0 .i64 .i64 (n : Int) (n : Int) (by omega) (Int.le_refl _) (by rw [hz2]; omega) (by omega)
  rw [hz1, Nat.mul_one, Int.toNat_natCast, show (Value.int .u8 0).cells = #[Value.int .u8 0] from rfl, madeL_zeros] at h
  exact h
theorem convL_zeros (n : Nat) (W : World) :
    (convert 42 9 (.slice (some ⟨W.heap.size, 0, none⟩) n n)).run Try.prog (W.alloc (.cells (cellsOf (List.replicate n 0)) 5)) = .ok (.string (str (List.replicate n 0))) (W.alloc (.cells (cellsOf (List.replicate n 0)) 5)) := by
  have h := run_convert_bytes_back (P := Try.prog) (W.alloc (.cells (cellsOf (List.replicate n 0)) 5)) 42 9 5 ⟨W.heap.size, 0, none⟩ n (List.replicate n 0) Try.underlying42 Try.underlying5 Try.underlying9 (cells_new rfl)
  rw [List.length_replicate] at h
  exact h
theorem out_nil (W : World) : Calls Try.prog 11 #[.pointer none] W fun e W' => e = .returned (.slice none 0 0) ∧ Below W.heap.size W W' := by
  go_enter Try.func11, Try.ntmps11
  go_wp2
  go_ret
  exact ⟨rfl, (Below.refl _ _).alloc (Nat.le_refl _) _⟩
theorem marks_nil (W : World) : Calls Try.prog 15 #[.pointer none] W fun e W' => e = .returned (.slice none 0 0) ∧ W = W' := by
  go_enter Try.func15, Try.ntmps15
  go_wp2
  go_ret
  exact ⟨rfl, rfl⟩
set_option maxRecDepth 100000 in
set_option maxHeartbeats 2000000 in
theorem linkNone_n (s : ByteArray) (f : Fr) (n V : Int) (m : Nat) (hmV : V = (m : Int)) (hm : 4090 ≤ m ∧ m ≤ 4100) (hn : n = V ∨ ((n < 4090 ∨ 4100 < n) ∧ V = 4096)) (w : World) :
    Calls Try.prog 6 #[.string s, frV f, .int .i64 n] w fun e w' => e = .returned (.bool true) ∧ Below w.heap.size w w' := by
  have hmk := makeL_zeros m (by omega)
  rw [← hmV] at hmk
  have hcv := convL_zeros m
  have hsz : (str (List.replicate m 0)).size = m := by rw [size_str, List.length_replicate]
  have hw1 := World.alloc_heap_new w (.cells #[.int .i64 f.wire, .int .i64 f.kind, .int .i64 f.src, .int .i64 f.dst, .int .u32 (f.life : Int), .int .u32 (f.seq : Int), .int .u32 (f.ack : Int), .int .u32 (f.hint : Int), .string f.data] 37)
  have hb0 := (Below.refl _ w).alloc (Nat.le_refl _) (.cells #[.int .i64 f.wire, .int .i64 f.kind, .int .i64 f.src, .int .i64 f.dst, .int .u32 (f.life : Int), .int .u32 (f.seq : Int), .int .u32 (f.ack : Int), .int .u32 (f.hint : Int), .string f.data] 37)
  have HB := Lib.hid hb0
  have HW := Lib.hid hw1
  have HR := Lib.hid (fun W => recv_nil f W)
  have HSN := Lib.hid (fun W => lsend_nil s W)
  unfold frV at HR ⊢
  clear hb0 hw1
  obtain ⟨r, hr, hrb⟩ : ∃ r : Int, (lsend (lk0 1 2 2 1 1) (str (List.replicate m 0))).1 = r ∧ (r = 0 ∧ V ≤ 4096 ∨ r = 2 ∧ 4096 < V) := by
    by_cases hle : m ≤ 4096
    · rw [lsend_yes _ _ (by rw [hsz]; exact hle) (by decide) (by decide)]
      exact ⟨0, rfl, .inl ⟨rfl, by omega⟩⟩
    · rw [lsend_long _ _ (by rw [hsz]; exact hle)]
      exact ⟨2, rfl, .inr ⟨rfl, by omega⟩⟩
  have HSD := Lib.hid (fun W S g (h : LkAt w W S g (lk0 1 2 2 1 1)) => (show Calls Try.prog 14 #[.pointer (some ⟨g, 0, none⟩), .string (str (List.replicate m 0))] W fun e w' => e = .returned (.int .i64 r) ∧ Below w.heap.size w w' from
    (lsend_any (str (List.replicate m 0)) (by rw [hsz]; omega) W S g (lk0 1 2 2 1 1) h.1 (by decide) (by decide)).mono fun e W' ⟨he, hL, ht⟩ => ⟨by rw [← hr]; exact he, (h.turn hL ht).2.1⟩))
  clear hr hsz
  generalize str (List.replicate m 0) = z at *
  generalize cellsOf (List.replicate m 0) = Z at *
  go_enter Try.func6, Try.ntmps6
  go_wp2_with fail
  generalize w.alloc (.cells #[.int .i64 f.wire, .int .i64 f.kind, .int .i64 f.src, .int .i64 f.dst, .int .u32 (f.life : Int), .int .u32 (f.seq : Int), .int .u32 (f.ack : Int), .int .u32 (f.hint : Int), .string f.data] 37) = W at *
  refine (lshown_any _).mono ?_
  rintro e w1 ⟨rfl, b1⟩
  obtain ⟨c0, c1, c2, c3, c4, c5, c6, c7, c8, _, _⟩ := cells9 (obj_below HW.out b1 (obj_lt HW.out))
  have B1 := Lib.hid (btL HB.out b1)
  clear b1
  go_wp2_with fail
  refine (HR.out _).mono ?_
  rintro e w2 ⟨rfl, b2⟩
  clear c0 c1 c2 c3 c4 c5 c6 c7 c8
  have B2 := Lib.hid (btL B1.out b2)
  clear b2 B1 HR HB HW
  go_wp2_with fail
  refine (n1_law B2.out 1 2 2 1 1 ⟨by decide, by decide⟩ ⟨by decide, by decide⟩ (by decide) (.inr rfl) ⟨by decide, by decide⟩ (by decide)).mono ?_
  rintro e w3 ⟨g, S, rfl, h3, _⟩
  have H3 := Lib.hid h3
  have HZ := Lib.hid (show LkAt w (w3.alloc (.cells Z 5)) S g (lk0 1 2 2 1 1) from h3.below ((Below.refl _ _).alloc (Nat.le_refl _) _))
  clear h3 B2
  rcases hn with rfl | ⟨hn, rfl⟩
  · have d1 : decide (n < 4090) = false := by simp; omega
    have d2 : decide (n > 4100) = false := by simp; omega
    rcases hrb with ⟨rfl, hv⟩ | ⟨rfl, hv⟩
    · have d3 : decide (n ≤ 4096) = true := by simp; omega
      clear hv hm hmV
      go_wp2_with (first
        | (go_at_call 14; (with_reducible refine (HSD.out _ _ _ HZ.out).mono ?_); rintro e w4 ⟨rfl, b4⟩; have B4 := Lib.hid b4; clear b4)
        | (go_at_call 14; (with_reducible refine (HSN.out _).mono ?_); rintro e w5 ⟨rfl, rfl⟩)
        | (go_at_call 11; (with_reducible refine (out_nil _).mono ?_); rintro e w6 ⟨rfl, b6⟩; have B6 := Lib.hid b6; clear b6)
        | (go_at_call 15; (with_reducible refine (marks_nil _).mono ?_); rintro e w7 ⟨rfl, rfl⟩))
      go_ret
      exact ⟨rfl, btL B4.out B6.out⟩
    · have d3 : decide (n ≤ 4096) = false := by simp; omega
      clear hv hm hmV
      go_wp2_with (first
        | (go_at_call 14; (with_reducible refine (HSD.out _ _ _ HZ.out).mono ?_); rintro e w4 ⟨rfl, b4⟩; have B4 := Lib.hid b4; clear b4)
        | (go_at_call 14; (with_reducible refine (HSN.out _).mono ?_); rintro e w5 ⟨rfl, rfl⟩)
        | (go_at_call 11; (with_reducible refine (out_nil _).mono ?_); rintro e w6 ⟨rfl, b6⟩; have B6 := Lib.hid b6; clear b6)
        | (go_at_call 15; (with_reducible refine (marks_nil _).mono ?_); rintro e w7 ⟨rfl, rfl⟩))
      go_ret
      exact ⟨rfl, btL B4.out B6.out⟩
  · rcases hrb with ⟨rfl, hv⟩ | ⟨rfl, hv⟩
    · rcases hn with hn | hn
      · have d1 : decide (n < 4090) = true := by simp; omega
        clear hv hm hmV hn
        go_wp2_with (first
          | (go_at_call 14; (with_reducible refine (HSD.out _ _ _ HZ.out).mono ?_); rintro e w4 ⟨rfl, b4⟩; have B4 := Lib.hid b4; clear b4)
          | (go_at_call 14; (with_reducible refine (HSN.out _).mono ?_); rintro e w5 ⟨rfl, rfl⟩)
          | (go_at_call 11; (with_reducible refine (out_nil _).mono ?_); rintro e w6 ⟨rfl, b6⟩; have B6 := Lib.hid b6; clear b6)
          | (go_at_call 15; (with_reducible refine (marks_nil _).mono ?_); rintro e w7 ⟨rfl, rfl⟩))
        go_ret
        exact ⟨rfl, btL B4.out B6.out⟩
      · have d1 : decide (n < 4090) = false := by simp; omega
        have d2 : decide (n > 4100) = true := by simp; omega
        clear hv hm hmV hn
        go_wp2_with (first
          | (go_at_call 14; (with_reducible refine (HSD.out _ _ _ HZ.out).mono ?_); rintro e w4 ⟨rfl, b4⟩; have B4 := Lib.hid b4; clear b4)
          | (go_at_call 14; (with_reducible refine (HSN.out _).mono ?_); rintro e w5 ⟨rfl, rfl⟩)
          | (go_at_call 11; (with_reducible refine (out_nil _).mono ?_); rintro e w6 ⟨rfl, b6⟩; have B6 := Lib.hid b6; clear b6)
          | (go_at_call 15; (with_reducible refine (marks_nil _).mono ?_); rintro e w7 ⟨rfl, rfl⟩))
        go_ret
        exact ⟨rfl, btL B4.out B6.out⟩
    · exact absurd hv (by decide)
theorem linkNone_walk (s : ByteArray) (f : Fr) (n : Int) (_hs : s.size ≤ maxLen) (_hf : okF f) (_h1 : -9223372036854775808 ≤ n) (_h2 : n ≤ 9223372036854775807) (w : World) :
    Calls Try.prog 6 #[.string s, frV f, .int .i64 n] w fun e w' => e = .returned (.bool true) ∧ Below w.heap.size w w' := by
  by_cases h : n < 4090 ∨ 4100 < n
  · exact linkNone_n s f n 4096 4096 rfl (by decide) (.inr ⟨h, rfl⟩) w
  · exact linkNone_n s f n n n.toNat (by omega) (by omega) (.inl rfl) w
end Go.Proofs.Ytbmlenffcmmkbaa
