/-
  The frame of opened bytes, long enough, of version 2. Conditions: at most a million bytes.
-/
import Derived.Test.YtcbihioflmfgjaaDoorFrmK
namespace Go.Proofs.YtcbihioflmfgjaaDoor
open Go.RowKit Go.Shelf Ros Go.Maps
attribute [local go_sem] Oper.semAt_some
set_option linter.unusedVariables false
set_option maxRecDepth 100000 in
set_option maxHeartbeats 4000000 in
theorem read_full2 (s : ByteArray) (a0 a1 : Addr) (w : World) (hs : s.size ≤ 1000000) (hS : Snt w a0 a1) (h0 : byteN s 0 = 72) (h1 : byteN s 1 = 2) (hz : 24 ≤ s.size) :
    Calls Tryd.prog 32 #[.string s] w fun e w' => e = .returned (.tuple #[frV (readR s), errV a0 a1 (readE s)]) ∧ Below w.heap.size w w' := by
  have HZ := Lib.hid (World.alloc_heap_new w (.cells #[.int .i64 0, .int .i64 0, .int .i64 0, .int .i64 0, .int .u32 0, .int .u32 0, .int .u32 0, .int .u32 0, .string ⟨#[]⟩] 24))
  have HF := Lib.hid (fun _ : Nat => (show ((w.alloc (.cells #[.int .i64 0, .int .i64 0, .int .i64 0, .int .i64 0, .int .u32 0, .int .u32 0, .int .u32 0, .int .u32 0, .string ⟨#[]⟩] 24)).alloc (.cells #[.int .i64 2, .int .i64 0, .int .i64 0, .int .i64 0, .int .u32 0, .int .u32 0, .int .u32 0, .int .u32 0, .string ⟨#[]⟩] 24)).heap[w.heap.size + 1]? = some (.cells #[.int .i64 2, .int .i64 0, .int .i64 0, .int .i64 0, .int .u32 0, .int .u32 0, .int .u32 0, .int .u32 0, .string ⟨#[]⟩] 24 (0, 0)) from by have := World.alloc_heap_new (w.alloc (.cells #[.int .i64 0, .int .i64 0, .int .i64 0, .int .i64 0, .int .u32 0, .int .u32 0, .int .u32 0, .int .u32 0, .string ⟨#[]⟩] 24)) (.cells #[.int .i64 2, .int .i64 0, .int .i64 0, .int .i64 0, .int .u32 0, .int .u32 0, .int .u32 0, .int .u32 0, .string ⟨#[]⟩] 24); rwa [World.size_alloc] at this))
  have hlow : 1 < w.heap.size := World.block_lt_of_cell? _ _ hS.c1
  have n0 : ¬ (0 = w.heap.size) := by omega
  have n1 : ¬ (w.heap.size = 0) := by omega
  have n2 : ¬ (1 = w.heap.size) := by omega
  have n3 : ¬ (w.heap.size = 1) := by omega
  have HS := Lib.hid hS
  have e1 : decide ((s.size : Int) < 2) = false := by simp; omega
  have e5 : decide ((s.size : Int) < 24) = false := by simp; omega
  have hl0 : 0 < s.size := by omega
  have hl1 : 1 < s.size := by omega
  have E0 := byte_at s 0 hl0
  have E1 := byte_at s 1 hl1
  rw [h0] at E0
  rw [h1] at E1
  have HG := Lib.hid (fun W => agree_any (2 : Int) (2 : Int) W ⟨by omega, by omega⟩ ⟨by omega, by omega⟩)
  rw [show agreeE (2 : Int) (2 : Int) = 0 from by decide] at HG
  generalize agreeN (2 : Int) (2 : Int) = an at *
  have H0 := Lib.hid h0
  have H1 := Lib.hid h1
  clear h0 h1 hlow hS
  refine calls_marksP Tryd.func32 rfl ?_
  simp only [Tryd.ntmps32, List.size_toArray, List.length_cons, List.length_nil, Nat.reduceAdd, Nat.reduceSub, Array.replicate_succ, Array.replicate_zero, List.push_toArray, List.append_toArray, List.nil_append, List.cons_append]
  go_wp2
  refine wp_scope_straight ?_
  go_upto_region 14 with (go_at_call 22; (with_reducible refine (HG.out _).mono ?_); rintro e w2 ⟨rfl, b2⟩; have B2 := Lib.hid (below_bx (below_bx b2)); have HZ2 := Lib.hid (obj_below (obj_alloc HZ.out _) b2 (obj_lt (obj_alloc HZ.out _))); have HF2 := Lib.hid (obj_below (HF.out 0) b2 (obj_lt (HF.out 0))); have f0 := cell_row (obj_alloc (obj_alloc (obj_alloc HF2.out (.cells #[.int .u32 0] 22)) (.cells #[.pointer (some ⟨w.heap.size + 1, 4, none⟩), .pointer (some ⟨w.heap.size + 1, 5, none⟩), .pointer (some ⟨w.heap.size + 1, 6, none⟩), .pointer (some ⟨w2.heap.size, 0, none⟩)] 69)) (.cells #[.slice (some ⟨w2.heap.size + 1, 0, none⟩) 4 4] 70)) 0; simp only [List.getElem?_toArray, List.getElem?_cons_zero] at f0; have hgt : w.heap.size + 2 ≤ w2.heap.size := (by have hq := b2.size; simp only [World.size_alloc] at hq; omega); have m0 : ¬ (w.heap.size + 1 = w2.heap.size) := (by omega); have m1 : ¬ (w.heap.size = w2.heap.size) := (by omega); have m2 : ¬ (w.heap.size = w2.heap.size + 1) := (by omega); have m3 : ¬ (w.heap.size + 1 = w2.heap.size + 1 + 1) := (by omega); have m4 : ¬ (w.heap.size = w2.heap.size + 1 + 1) := (by omega); clear b2)
  have HZ4 := Lib.hid (obj_alloc (obj_alloc (obj_alloc (obj_alloc HZ2.out (.cells #[.int .u32 0] 22)) (.cells #[.pointer (some ⟨w.heap.size + 1, 4, none⟩), .pointer (some ⟨w.heap.size + 1, 5, none⟩), .pointer (some ⟨w.heap.size + 1, 6, none⟩), .pointer (some ⟨w2.heap.size, 0, none⟩)] 69)) (.cells #[.slice (some ⟨w2.heap.size + 1 + 1 + 1, 0, none⟩) 5 5] 70)) (.cells #[.pointer (some ⟨w.heap.size + 1, 4, none⟩), .pointer (some ⟨w.heap.size + 1, 5, none⟩), .pointer (some ⟨w.heap.size + 1, 6, none⟩), .pointer (some ⟨w.heap.size + 1, 7, none⟩), .pointer (some ⟨w2.heap.size, 0, none⟩)] 69))
  have HF4 := Lib.hid (obj_alloc (obj_alloc (obj_alloc (obj_alloc HF2.out (.cells #[.int .u32 0] 22)) (.cells #[.pointer (some ⟨w.heap.size + 1, 4, none⟩), .pointer (some ⟨w.heap.size + 1, 5, none⟩), .pointer (some ⟨w.heap.size + 1, 6, none⟩), .pointer (some ⟨w2.heap.size, 0, none⟩)] 69)) (.cells #[.slice (some ⟨w2.heap.size + 1 + 1 + 1, 0, none⟩) 5 5] 70)) (.cells #[.pointer (some ⟨w.heap.size + 1, 4, none⟩), .pointer (some ⟨w.heap.size + 1, 5, none⟩), .pointer (some ⟨w.heap.size + 1, 6, none⟩), .pointer (some ⟨w.heap.size + 1, 7, none⟩), .pointer (some ⟨w2.heap.size, 0, none⟩)] 69))
  have HG4 := Lib.hid (obj_alloc (obj_alloc (obj_alloc (by have h := World.alloc_heap_new w2 (.cells #[.int .u32 0] 22); simpa only [World.size_alloc] using h) (.cells #[.pointer (some ⟨w.heap.size + 1, 4, none⟩), .pointer (some ⟨w.heap.size + 1, 5, none⟩), .pointer (some ⟨w.heap.size + 1, 6, none⟩), .pointer (some ⟨w2.heap.size, 0, none⟩)] 69)) (.cells #[.slice (some ⟨w2.heap.size + 1 + 1 + 1, 0, none⟩) 5 5] 70)) (.cells #[.pointer (some ⟨w.heap.size + 1, 4, none⟩), .pointer (some ⟨w.heap.size + 1, 5, none⟩), .pointer (some ⟨w.heap.size + 1, 6, none⟩), .pointer (some ⟨w.heap.size + 1, 7, none⟩), .pointer (some ⟨w2.heap.size, 0, none⟩)] 69))
  have HT4 := Lib.hid (by have h := World.alloc_heap_new (((w2.alloc (.cells #[.int .u32 0] 22)).alloc (.cells #[.pointer (some ⟨w.heap.size + 1, 4, none⟩), .pointer (some ⟨w.heap.size + 1, 5, none⟩), .pointer (some ⟨w.heap.size + 1, 6, none⟩), .pointer (some ⟨w2.heap.size, 0, none⟩)] 69)).alloc (.cells #[.slice (some ⟨w2.heap.size + 1 + 1 + 1, 0, none⟩) 5 5] 70)) (.cells #[.pointer (some ⟨w.heap.size + 1, 4, none⟩), .pointer (some ⟨w.heap.size + 1, 5, none⟩), .pointer (some ⟨w.heap.size + 1, 6, none⟩), .pointer (some ⟨w.heap.size + 1, 7, none⟩), .pointer (some ⟨w2.heap.size, 0, none⟩)] 69); simpa only [World.size_alloc] using h)
  have HP4 := Lib.hid (obj_alloc (by have h := World.alloc_heap_new ((w2.alloc (.cells #[.int .u32 0] 22)).alloc (.cells #[.pointer (some ⟨w.heap.size + 1, 4, none⟩), .pointer (some ⟨w.heap.size + 1, 5, none⟩), .pointer (some ⟨w.heap.size + 1, 6, none⟩), .pointer (some ⟨w2.heap.size, 0, none⟩)] 69)) (.cells #[.slice (some ⟨w2.heap.size + 1 + 1 + 1, 0, none⟩) 5 5] 70); simpa only [World.size_alloc] using h) (.cells #[.pointer (some ⟨w.heap.size + 1, 4, none⟩), .pointer (some ⟨w.heap.size + 1, 5, none⟩), .pointer (some ⟨w.heap.size + 1, 6, none⟩), .pointer (some ⟨w.heap.size + 1, 7, none⟩), .pointer (some ⟨w2.heap.size, 0, none⟩)] 69))
  have hle : w.heap.size ≤ w2.heap.size := by omega
  have B4 := Lib.hid ((((B2.out.alloc hle (.cells #[.int .u32 0] 22)).alloc (by simp; omega) (.cells #[.pointer (some ⟨w.heap.size + 1, 4, none⟩), .pointer (some ⟨w.heap.size + 1, 5, none⟩), .pointer (some ⟨w.heap.size + 1, 6, none⟩), .pointer (some ⟨w2.heap.size, 0, none⟩)] 69)).alloc (by simp; omega) (.cells #[.slice (some ⟨w2.heap.size + 1 + 1 + 1, 0, none⟩) 5 5] 70)).alloc (by simp; omega) (.cells #[.pointer (some ⟨w.heap.size + 1, 4, none⟩), .pointer (some ⟨w.heap.size + 1, 5, none⟩), .pointer (some ⟨w.heap.size + 1, 6, none⟩), .pointer (some ⟨w.heap.size + 1, 7, none⟩), .pointer (some ⟨w2.heap.size, 0, none⟩)] 69))
  have HL4 := Lib.hid (show ((((w2.alloc (.cells #[.int .u32 0] 22)).alloc (.cells #[.pointer (some ⟨w.heap.size + 1, 4, none⟩), .pointer (some ⟨w.heap.size + 1, 5, none⟩), .pointer (some ⟨w.heap.size + 1, 6, none⟩), .pointer (some ⟨w2.heap.size, 0, none⟩)] 69)).alloc (.cells #[.slice (some ⟨w2.heap.size + 1 + 1 + 1, 0, none⟩) 5 5] 70)).alloc (.cells #[.pointer (some ⟨w.heap.size + 1, 4, none⟩), .pointer (some ⟨w.heap.size + 1, 5, none⟩), .pointer (some ⟨w.heap.size + 1, 6, none⟩), .pointer (some ⟨w.heap.size + 1, 7, none⟩), .pointer (some ⟨w2.heap.size, 0, none⟩)] 69)).heap.size = w2.heap.size + 4 by simp only [World.size_alloc])
  generalize ((((w2.alloc (.cells #[.int .u32 0] 22)).alloc (.cells #[.pointer (some ⟨w.heap.size + 1, 4, none⟩), .pointer (some ⟨w.heap.size + 1, 5, none⟩), .pointer (some ⟨w.heap.size + 1, 6, none⟩), .pointer (some ⟨w2.heap.size, 0, none⟩)] 69)).alloc (.cells #[.slice (some ⟨w2.heap.size + 1 + 1 + 1, 0, none⟩) 5 5] 70)).alloc (.cells #[.pointer (some ⟨w.heap.size + 1, 4, none⟩), .pointer (some ⟨w.heap.size + 1, 5, none⟩), .pointer (some ⟨w.heap.size + 1, 6, none⟩), .pointer (some ⟨w.heap.size + 1, 7, none⟩), .pointer (some ⟨w2.heap.size, 0, none⟩)] 69)) = W4 at *
  clear f0 HZ2 HF2 B2 HZ HF
  generalize w2.heap.size = G at *
  have hl2 : 2 < s.size := by omega
  have hl3 : 3 < s.size := by omega
  have E2 := byte_at s 2 hl2
  have E3 := byte_at s 3 hl3
  have hb2 := byteN_lt s 2
  have hb3 := byteN_lt s 3
  have f1 := cell_row HF4.out 1
  have f1z := obj_frozen HF4.out 1
  simp only [List.getElem?_toArray, List.getElem?_cons_succ, List.getElem?_cons_zero] at f1
  generalize hb2d : byteN s 2 = b2 at *
  generalize hb3d : byteN s 3 = b3 at *
  go_upto_region 15 with fail
  have HF5 := Lib.hid (show (W4.setCell ⟨w.heap.size + 1, 1, none⟩ (.int .i64 (b2 : Int))).heap[w.heap.size + 1]? = some (.cells #[.int .i64 2, .int .i64 (b2 : Int), .int .i64 0, .int .i64 0, .int .u32 0, .int .u32 0, .int .u32 0, .int .u32 0, .string ⟨#[]⟩] 24 (0, 0)) from obj_set HF4.out 1 (.int .i64 (b2 : Int)))
  have HZ5 := Lib.hid (obj_far HZ4.out (p := ⟨w.heap.size + 1, 1, none⟩) (by show w.heap.size ≠ w.heap.size + 1; omega) (.int .i64 (b2 : Int)))
  have HG5 := Lib.hid (obj_far HG4.out (p := ⟨w.heap.size + 1, 1, none⟩) (by show G ≠ w.heap.size + 1; omega) (.int .i64 (b2 : Int)))
  have HT5 := Lib.hid (obj_far HT4.out (p := ⟨w.heap.size + 1, 1, none⟩) (by show G + 1 + 1 + 1 ≠ w.heap.size + 1; omega) (.int .i64 (b2 : Int)))
  have HP5 := Lib.hid (obj_far HP4.out (p := ⟨w.heap.size + 1, 1, none⟩) (by show G + 1 + 1 ≠ w.heap.size + 1; omega) (.int .i64 (b2 : Int)))
  have B5 := Lib.hid (show Below w.heap.size w (W4.setCell ⟨w.heap.size + 1, 1, none⟩ (.int .i64 (b2 : Int))) from Below.setCell B4.out (by show w.heap.size ≤ w.heap.size + 1; omega) _)
  have HL5 := Lib.hid (show (W4.setCell ⟨w.heap.size + 1, 1, none⟩ (.int .i64 (b2 : Int))).heap.size = G + 4 by rw [World.size_setCell]; exact HL4.out)
  generalize (W4.setCell ⟨w.heap.size + 1, 1, none⟩ (.int .i64 (b2 : Int))) = W5 at *
  clear f1 f1z
  clear HF4 HZ4 HG4 HT4 HP4 B4 HL4
  have f2 := cell_row HF5.out 2
  have f2z := obj_frozen HF5.out 2
  have f3 := cell_row HF5.out 3
  have f3z := obj_frozen HF5.out 3
  simp only [List.getElem?_toArray, List.getElem?_cons_succ, List.getElem?_cons_zero] at f2 f3
  go_region
  have HF6 := Lib.hid (show ((W5.setCell ⟨w.heap.size + 1, 2, none⟩ (.int .i64 ((b3 : Int) / 16))).setCell ⟨w.heap.size + 1, 3, none⟩ (.int .i64 ((b3 : Int) % 16))).drew.heap[w.heap.size + 1]? = some (.cells #[.int .i64 2, .int .i64 (b2 : Int), .int .i64 ((b3 : Int) / 16), .int .i64 ((b3 : Int) % 16), .int .u32 0, .int .u32 0, .int .u32 0, .int .u32 0, .string ⟨#[]⟩] 24 (0, 0)) from obj_set (obj_set HF5.out 2 _) 3 _)
  have far6 : ∀ (b : Nat) (o : Obj), b ≠ w.heap.size + 1 → W5.heap[b]? = some o → ((W5.setCell ⟨w.heap.size + 1, 2, none⟩ (.int .i64 ((b3 : Int) / 16))).setCell ⟨w.heap.size + 1, 3, none⟩ (.int .i64 ((b3 : Int) % 16))).drew.heap[b]? = some o := fun b o hb h => obj_far (p := ⟨w.heap.size + 1, 3, none⟩) (obj_far (p := ⟨w.heap.size + 1, 2, none⟩) h hb _) hb _
  have HZ6 := Lib.hid (far6 _ _ (by omega) HZ5.out)
  have HG6 := Lib.hid (far6 _ _ (by omega) HG5.out)
  have HT6 := Lib.hid (far6 _ _ (by omega) HT5.out)
  have HP6 := Lib.hid (far6 _ _ (by omega) HP5.out)
  have B6 := Lib.hid (show Below w.heap.size w ((W5.setCell ⟨w.heap.size + 1, 2, none⟩ (.int .i64 ((b3 : Int) / 16))).setCell ⟨w.heap.size + 1, 3, none⟩ (.int .i64 ((b3 : Int) % 16))).drew from ((Below.setCell B5.out (by show w.heap.size ≤ w.heap.size + 1; omega) _).setCell (by show w.heap.size ≤ w.heap.size + 1; omega) _).drew)
  have HL6 := Lib.hid (show ((W5.setCell ⟨w.heap.size + 1, 2, none⟩ (.int .i64 ((b3 : Int) / 16))).setCell ⟨w.heap.size + 1, 3, none⟩ (.int .i64 ((b3 : Int) % 16))).drew.heap.size = G + 4 by show ((W5.setCell _ _).setCell _ _).heap.size = _; rw [World.size_setCell, World.size_setCell]; exact HL5.out)
  generalize ((W5.setCell ⟨w.heap.size + 1, 2, none⟩ (.int .i64 ((b3 : Int) / 16))).setCell ⟨w.heap.size + 1, 3, none⟩ (.int .i64 ((b3 : Int) % 16))).drew = W6 at *
  clear far6 f2 f2z f3 f3z HF5 HZ5 HG5 HT5 HP5 B5 HL5
  have HSL := fun W => slF_l (P := Tryd.prog) Tryd.underlying9 s 24 hz 24 rfl W
  have HSU := fun W => slF_l (P := Tryd.prog) Tryd.underlying9 s 4 (by omega) 4 rfl W
  have husz : (s.extract 4 s.size).size ≤ 1000000 := by rw [ByteArray.size_extract]; omega
  have HDS := Lib.hid (show (s.extract 24 s.size).size = s.size - 24 by rw [ByteArray.size_extract, Nat.min_self])
  have HEX := Lib.hid (fun i : Nat => rd_num s i)
  have HUS := Lib.hid (rd_len s (by omega))
  have HFO := Lib.hid (rd_frame2 s H1.out)
  rw [hb2d, hb3d] at HFO
  generalize s.extract 24 s.size = d at *
  generalize s.extract 4 s.size = u at *
  have f8 := cell_row HF6.out 8
  have f8z := obj_frozen HF6.out 8
  simp only [List.getElem?_toArray, List.getElem?_cons_succ, List.getElem?_cons_zero] at f8
  go_upto_region 17 with fail
  have HS7 := Lib.hid (show RdI s 4 (w.heap.size + 1) G (G + 1 + 1 + 1) 2 (b2 : Int) ((b3 : Int) / 16) ((b3 : Int) % 16) d 0 (W6.setCell ⟨w.heap.size + 1, 8, none⟩ (.string d)) from ⟨obj_set HF6.out 8 _, obj_far HG6.out (p := ⟨w.heap.size + 1, 8, none⟩) (by show G ≠ w.heap.size + 1; omega) _, obj_far HT6.out (p := ⟨w.heap.size + 1, 8, none⟩) (by show G + 1 + 1 + 1 ≠ w.heap.size + 1; omega) _⟩)
  have HP7 := Lib.hid (obj_far HP6.out (p := ⟨w.heap.size + 1, 8, none⟩) (by show G + 1 + 1 ≠ w.heap.size + 1; omega) (.string d))
  have HZ7 := Lib.hid (obj_far HZ6.out (p := ⟨w.heap.size + 1, 8, none⟩) (by show w.heap.size ≠ w.heap.size + 1; omega) (.string d))
  have B7 := Lib.hid (show Below w.heap.size w (W6.setCell ⟨w.heap.size + 1, 8, none⟩ (.string d)) from Below.setCell B6.out (by show w.heap.size ≤ w.heap.size + 1; omega) _)
  have HL7 := Lib.hid (show (W6.setCell ⟨w.heap.size + 1, 8, none⟩ (.string d)).heap.size = G + 4 by rw [World.size_setCell]; exact HL6.out)
  generalize (W6.setCell ⟨w.heap.size + 1, 8, none⟩ (.string d)) = W7 at *
  clear f8 f8z HF6 HZ6 HG6 HT6 HP6 B6 HL6
  refine wp_label ?_
  go_wp2_with (go_at_call 42; (with_reducible refine (numbers_any _ _).mono ?_); rintro e w3 ⟨rfl, rfl⟩)
  have h8 : (W7.alloc (.cells #[.string u] 9)).heap.size = G + 5 := by rw [World.size_alloc, HL7.out]
  rw [HL7.out]
  refine range_break (gf := 49) (lb := #[.pointer (some ⟨G + 4, 0, none⟩)]) rfl (enters_of Tryd.func49 (by kernel_rfl) rfl) (numbers1_iter (G + 4) u husz) (fun _ => rfl)
    (RdL s u 4 (w.heap.size + 1) G (G + 1 + 1 + 1) (G + 1 + 1) w.heap.size (G + 4) 2 (b2 : Int) ((b3 : Int) / 16) ((b3 : Int) % 16) d w) (RdX s u 4 (w.heap.size + 1) G (G + 1 + 1 + 1) (G + 1 + 1) w.heap.size (G + 4) 2 (b2 : Int) ((b3 : Int) / 16) ((b3 : Int) % 16) d w) (RdW s u 4 (w.heap.size + 1) G (G + 1 + 1 + 1) (G + 1 + 1) w.heap.size (G + 4) 2 (b2 : Int) ((b3 : Int) / 16) ((b3 : Int) % 16) d w (4 + 1))
    (own_rdl (by omega)) (own_rdx (by omega)) (fun _ _ h => cell_row h.2.2.2.2.1 0) ?hF (fun _ _ _ h => h) ?h0 ?hround ?htail
  case hF =>
    rintro W ⟨hm, hW⟩
    have e : (numL u).length = 4 + 1 := by have := HUS.out; omega
    rwa [e] at hW
  case h0 =>
    exact ⟨Nat.zero_le _, ⟨obj_alloc HS7.out.1 _, obj_alloc HS7.out.2.1 _, obj_alloc HS7.out.2.2 _⟩, obj_alloc HP7.out _, obj_alloc HZ7.out _, (by have h := World.alloc_heap_new W7 (.cells #[.string u] 9); rwa [HL7.out] at h), B7.out.alloc (by rw [HL7.out]; omega) _⟩
  case hround =>
    rintro L pre x post W hxs hlL hlW ⟨hm, hW⟩
    obtain ⟨rfl, hlt⟩ := numL_mid hxs
    rw [HEX.out]
    clear hxs
    unfold encNu
    dsimp only
    obtain ⟨m, hmd⟩ : ∃ m, m = pre.length := ⟨_, rfl⟩
    have HW := Lib.hid (show RdL s u 4 (w.heap.size + 1) G (G + 1 + 1 + 1) (G + 1 + 1) w.heap.size (G + 4) 2 (b2 : Int) ((b3 : Int) / 16) ((b3 : Int) % 16) d w pre W from ⟨hm, hW⟩)
    clear hm hW
    rw [← hmd] at hlt ⊢
    have HM := Lib.hid hmd
    clear hmd
    gi_wp2
    refine ⟨KeepsFrom.refl _ _, HW.out, ?_⟩
    clear HW
    rintro W2 hg hsz ⟨hm, hI, hP, hZ, hBs, hB⟩
    rw [← HM.out] at hm hI
    have p0 := cell_row hP 0
    simp only [List.getElem?_toArray, List.getElem?_cons_zero] at p0
    have HI := Lib.hid hI
    have HP := Lib.hid hP
    have HZ := Lib.hid hZ
    have HBS := Lib.hid hBs
    have HB := Lib.hid hB
    clear hI hP hZ hBs hB hg hsz
    by_cases hmk : m = 5
    · subst hmk
      gi_wp2
      exact ⟨KeepsFrom.refl _ _, rfl, HI.out, HP.out, HZ.out, HBS.out, HB.out⟩
    · have hq : ((m : Int) == 5) = false := by rw [beq_eq_false_iff_ne]; omega
      have hmk2 : m < 5 := by omega
      obtain ⟨p, hp1, hp2, ⟨pv, hp3⟩, hp4, hI2⟩ := HI.out.step (by omega) (by omega) (by omega) (by omega) (by omega)
      have HI2 := Lib.hid hI2
      clear hI2
      gi_wp2
      have hl : (pre ++ [(m, numN s (4 + 4 * m))]).length = m + 1 := by rw [List.length_append, List.length_singleton, HM.out]
      refine ⟨keeps_set _ _ _, ?_⟩
      unfold RdL
      rw [hl]
      exact ⟨by omega, HI2.out, obj_far HP.out (by rcases hp4 with e | e <;> rw [e] <;> omega) _, obj_far HZ.out (by rcases hp4 with e | e <;> rw [e] <;> omega) _, obj_far HBS.out (by rcases hp4 with e | e <;> rw [e] <;> omega) _, HB.out.setCell (by rcases hp4 with e | e <;> rw [e] <;> omega) _⟩
  case htail =>
    rintro D W hD ⟨hI, hP, hZ, hBs, hB⟩ hK
    obtain ⟨hv, hhv⟩ : ∃ hv : Nat, hv = numN s 16 := ⟨_, rfl⟩
    have HE := Lib.hid (rd_end s _ _ _ a0 a1 H0.out (by rw [H1.out]; exact .inr rfl) hz (by omega) HFO.out.1 HFO.out.2.1 HFO.out.2.2)
    have hF : W.heap[w.heap.size + 1]? = some (.cells #[.int .i64 2, .int .i64 (b2 : Int), .int .i64 ((b3 : Int) / 16), .int .i64 ((b3 : Int) % 16), .int .u32 (numN s 4 : Int), .int .u32 (numN s 8 : Int), .int .u32 (numN s 12 : Int), .int .u32 (hv : Int), .string d] 24 (0, 0)) := by
      rw [hhv]; exact hI.1
    have hG : W.heap[G]? = some (.cells #[.int .u32 (numN s 20 : Int)] 22 (0, 0)) := hI.2.1
    have hok : okF ⟨2, (b2 : Int), (b3 : Int) / 16, (b3 : Int) % 16, numN s 4, numN s 8, numN s 12, hv, d⟩ :=
      okF_rd (.inr rfl) hb2 hb3 (numN_lt _ _) (numN_lt _ _) (numN_lt _ _) (by rw [hhv]; exact numN_lt _ _) (by rw [HDS.out]; unfold maxLen; omega)
    have hRT := fun W => right_any _ hok W
    simp only [frV] at hRT
    have HRT := Lib.hid hRT
    clear hRT
    rw [← hhv] at HE
    have hNl := numN_lt s 20
    have hds := HDS.out
    rw [← hds] at HE
    generalize numN s 4 = n4 at *
    generalize numN s 8 = n8 at *
    generalize numN s 12 = n12 at *
    generalize numN s 20 = N at *
    clear hhv hI hP hBs
    obtain ⟨c0, c1, c2, c3, c4, c5, c6, c7, c8, _, _⟩ := cells9 hF
    have g0 := cell_row hG 0
    simp only [List.getElem?_toArray, List.getElem?_cons_zero] at g0
    have HF := Lib.hid hF
    have HG := Lib.hid hG
    have HZ := Lib.hid hZ
    have HB := Lib.hid hB
    have HK := Lib.hid hK
    have HOK := Lib.hid hok
    have HDD := Lib.hid (show w.heap.size ≠ D by omega)
    clear hF hG hZ hB hK hok hds
    have hwr : IntKind.u64.wrap (d.size : Int) = (d.size : Int) := wrap_u64 (by have := HDS.out; omega)
    by_cases hN : N = d.size
    · have hq : ((N : Int) != (d.size : Int)) = false := by rw [bne_eq_false_iff_eq]; omega
      have hq2 : (N : Int) = (d.size : Int) := by omega
      cases hr : rightB (⟨2, (b2 : Int), (b3 : Int) / 16, (b3 : Int) % 16, n4, n8, n12, hv, d⟩ : Fr) with
      | false =>
        have HE := Lib.hid (HE.out.1 (.inr hr))
        rw [hr] at HRT
        go_upto_region 23 with (go_at_call 15; (with_reducible refine (HRT.out _).mono ?_); rintro e w5 ⟨rfl, b5⟩; have B5 := Lib.hid b5; clear b5)
        have HZ5 := Lib.hid (obj_below HZ.out B5.out (obj_lt HZ.out))
        have HK5 := Lib.hid (obj_below HK.out B5.out (obj_lt HK.out))
        have HB5 := Lib.hid (btL2 HB.out B5.out)
        have HS5 := Lib.hid (HS.out.below HB5.out)
        have g1 := HS5.out.c0
        clear c0 c1 c2 c3 c4 c5 c6 c7 c8 g0
        obtain ⟨d0, d1, d2, d3, d4, d5, d6, d7, d8, df, dl⟩ := cells9 HZ5.out
        have k0 := df 0
        have k1 := df 1
        have k2 := df 2
        have k3 := df 3
        have k4 := df 4
        have k5 := df 5
        have k6 := df 6
        have k7 := df 7
        have k8 := df 8
        clear df
        go_region
        have HST := Lib.hid (fr_stored (.int .i64 0) (.int .i64 0) (.int .i64 0) (.int .i64 0) (.int .u32 0) (.int .u32 0) (.int .u32 0) (.int .u32 0) (.string ⟨#[]⟩) HZ5.out)
        generalize (((((((((w5.setCell ⟨w.heap.size, 0, none⟩ (.int .i64 0)).setCell ⟨w.heap.size, 1, none⟩ (.int .i64 0)).setCell ⟨w.heap.size, 2, none⟩ (.int .i64 0)).setCell ⟨w.heap.size, 3, none⟩ (.int .i64 0)).setCell ⟨w.heap.size, 4, none⟩ (.int .u32 0)).setCell ⟨w.heap.size, 5, none⟩ (.int .u32 0)).setCell ⟨w.heap.size, 6, none⟩ (.int .u32 0)).setCell ⟨w.heap.size, 7, none⟩ (.int .u32 0)).setCell ⟨w.heap.size, 8, none⟩ (.string ⟨#[]⟩)).drew = V at *
        clear d0 d1 d2 d3 d4 d5 d6 d7 d8 k0 k1 k2 k3 k4 k5 k6 k7 k8 dl g1
        go_wp2
        rw [Exit.noGoto_ret]
        refine leaves_mark (HST.out.far D _ (Ne.symm HDD.out) HK5.out) (results_fr rfl HST.out.at_ HDD.out rfl) ⟨by rw [HE.out.1, HE.out.2]; rfl, below_put (HST.out.below _ _ (Nat.le_refl _) HB5.out) (by rw [h8] at hD; omega) (Nat.le_refl _)⟩
      | true =>
        have HE := Lib.hid (HE.out.2 hN hr)
        rw [hr] at HRT
        go_upto_region 24 with (go_at_call 15; (with_reducible refine (HRT.out _).mono ?_); rintro e w5 ⟨rfl, b5⟩; have B5 := Lib.hid b5; clear b5)
        have HZ5 := Lib.hid (obj_below HZ.out B5.out (obj_lt HZ.out))
        have HK5 := Lib.hid (obj_below HK.out B5.out (obj_lt HK.out))
        have HB5 := Lib.hid (btL2 HB.out B5.out)
        clear c0 c1 c2 c3 c4 c5 c6 c7 c8 g0
        obtain ⟨c0, c1, c2, c3, c4, c5, c6, c7, c8, _, _⟩ := cells9 (obj_below HF.out B5.out (obj_lt HF.out))
        obtain ⟨d0, d1, d2, d3, d4, d5, d6, d7, d8, df, dl⟩ := cells9 HZ5.out
        have k0 := df 0
        have k1 := df 1
        have k2 := df 2
        have k3 := df 3
        have k4 := df 4
        have k5 := df 5
        have k6 := df 6
        have k7 := df 7
        have k8 := df 8
        clear df
        go_wp2
        rw [Exit.noGoto_ret]
        clear d0 d1 d2 d3 d4 d5 d6 d7 d8 k0 k1 k2 k3 k4 k5 k6 k7 k8 dl c0 c1 c2 c3 c4 c5 c6 c7 c8
        have HST := Lib.hid (fr_stored0 (.int .i64 2) (.int .i64 (b2 : Int)) (.int .i64 ((b3 : Int) / 16)) (.int .i64 ((b3 : Int) % 16)) (.int .u32 (n4 : Int)) (.int .u32 (n8 : Int)) (.int .u32 (n12 : Int)) (.int .u32 (hv : Int)) (.string d) HZ5.out)
        generalize (((((((((w5.setCell ⟨w.heap.size, 0, none⟩ (.int .i64 2)).setCell ⟨w.heap.size, 1, none⟩ (.int .i64 (b2 : Int))).setCell ⟨w.heap.size, 2, none⟩ (.int .i64 ((b3 : Int) / 16))).setCell ⟨w.heap.size, 3, none⟩ (.int .i64 ((b3 : Int) % 16))).setCell ⟨w.heap.size, 4, none⟩ (.int .u32 (n4 : Int))).setCell ⟨w.heap.size, 5, none⟩ (.int .u32 (n8 : Int))).setCell ⟨w.heap.size, 6, none⟩ (.int .u32 (n12 : Int))).setCell ⟨w.heap.size, 7, none⟩ (.int .u32 (hv : Int))).setCell ⟨w.heap.size, 8, none⟩ (.string d)) = V at *
        refine leaves_mark (HST.out.far D _ (Ne.symm HDD.out) HK5.out) (results_fr rfl HST.out.at_ HDD.out rfl) ⟨by rw [HE.out.1, HE.out.2]; rfl, below_put (HST.out.below _ _ (Nat.le_refl _) HB5.out) (by rw [h8] at hD; omega) (Nat.le_refl _)⟩
    · have HE := Lib.hid (HE.out.1 (.inl hN))
      have hq : ((N : Int) != (d.size : Int)) = true := by rw [bne_iff_ne]; omega
      have hq2 : ¬ ((N : Int) = (d.size : Int)) := by omega
      go_upto_region 23 with fail
      have HS5 := Lib.hid (HS.out.below HB.out)
      have g1 := HS5.out.c0
      clear c0 c1 c2 c3 c4 c5 c6 c7 c8 g0
      obtain ⟨d0, d1, d2, d3, d4, d5, d6, d7, d8, df, dl⟩ := cells9 HZ.out
      have k0 := df 0
      have k1 := df 1
      have k2 := df 2
      have k3 := df 3
      have k4 := df 4
      have k5 := df 5
      have k6 := df 6
      have k7 := df 7
      have k8 := df 8
      clear df
      go_region
      have HST := Lib.hid (fr_stored (.int .i64 0) (.int .i64 0) (.int .i64 0) (.int .i64 0) (.int .u32 0) (.int .u32 0) (.int .u32 0) (.int .u32 0) (.string ⟨#[]⟩) HZ.out)
      generalize (((((((((W.setCell ⟨w.heap.size, 0, none⟩ (.int .i64 0)).setCell ⟨w.heap.size, 1, none⟩ (.int .i64 0)).setCell ⟨w.heap.size, 2, none⟩ (.int .i64 0)).setCell ⟨w.heap.size, 3, none⟩ (.int .i64 0)).setCell ⟨w.heap.size, 4, none⟩ (.int .u32 0)).setCell ⟨w.heap.size, 5, none⟩ (.int .u32 0)).setCell ⟨w.heap.size, 6, none⟩ (.int .u32 0)).setCell ⟨w.heap.size, 7, none⟩ (.int .u32 0)).setCell ⟨w.heap.size, 8, none⟩ (.string ⟨#[]⟩)).drew = V at *
      clear d0 d1 d2 d3 d4 d5 d6 d7 d8 k0 k1 k2 k3 k4 k5 k6 k7 k8 dl g1
      go_wp2
      rw [Exit.noGoto_ret]
      refine leaves_mark (HST.out.far D _ (Ne.symm HDD.out) HK.out) (results_fr rfl HST.out.at_ HDD.out rfl) ⟨by rw [HE.out.1, HE.out.2]; rfl, below_put (HST.out.below _ _ (Nat.le_refl _) HB.out) (by rw [h8] at hD; omega) (Nat.le_refl _)⟩
end Go.Proofs.YtcbihioflmfgjaaDoor
