/-
  Bytes that are too short for their numbers make no frame. Conditions: at most a million bytes.
-/
import Derived.Test.YtcbihioflmfgjaaDoorFrmG
namespace Go.Proofs.YtcbihioflmfgjaaDoor
open Go.RowKit Go.Shelf Ros Go.Maps
attribute [local go_sem] Oper.semAt_some
set_option linter.unusedVariables false
set_option maxRecDepth 100000 in
set_option maxHeartbeats 4000000 in
theorem read_less1 (s : ByteArray) (a0 a1 : Addr) (w : World) (hs : s.size ≤ 1000000) (hS : Snt w a0 a1) (h2 : 2 ≤ s.size) (h0 : byteN s 0 = 72) (h1 : byteN s 1 = 1) (hz : s.size < 20) :
    Calls Tryd.prog 32 #[.string s] w fun e w' => e = .returned (.tuple #[frV zeroFr, .iface 96 (.pointer (some a0))]) ∧ Below w.heap.size w w' := by
  have HZ := Lib.hid (World.alloc_heap_new w (.cells #[.int .i64 0, .int .i64 0, .int .i64 0, .int .i64 0, .int .u32 0, .int .u32 0, .int .u32 0, .int .u32 0, .string ⟨#[]⟩] 24))
  have HF := Lib.hid (fun _ : Nat => (show ((w.alloc (.cells #[.int .i64 0, .int .i64 0, .int .i64 0, .int .i64 0, .int .u32 0, .int .u32 0, .int .u32 0, .int .u32 0, .string ⟨#[]⟩] 24)).alloc (.cells #[.int .i64 1, .int .i64 0, .int .i64 0, .int .i64 0, .int .u32 0, .int .u32 0, .int .u32 0, .int .u32 0, .string ⟨#[]⟩] 24)).heap[w.heap.size + 1]? = some (.cells #[.int .i64 1, .int .i64 0, .int .i64 0, .int .i64 0, .int .u32 0, .int .u32 0, .int .u32 0, .int .u32 0, .string ⟨#[]⟩] 24 (0, 0)) from by have := World.alloc_heap_new (w.alloc (.cells #[.int .i64 0, .int .i64 0, .int .i64 0, .int .i64 0, .int .u32 0, .int .u32 0, .int .u32 0, .int .u32 0, .string ⟨#[]⟩] 24)) (.cells #[.int .i64 1, .int .i64 0, .int .i64 0, .int .i64 0, .int .u32 0, .int .u32 0, .int .u32 0, .int .u32 0, .string ⟨#[]⟩] 24); rwa [World.size_alloc] at this))
  have hlow : 1 < w.heap.size := World.block_lt_of_cell? _ _ hS.c1
  have n0 : ¬ (0 = w.heap.size) := by omega
  have n1 : ¬ (w.heap.size = 0) := by omega
  have n2 : ¬ (1 = w.heap.size) := by omega
  have n3 : ¬ (w.heap.size = 1) := by omega
  have HS := Lib.hid hS
  have e1 : decide ((s.size : Int) < 2) = false := by simp; omega
  have e5 : decide ((s.size : Int) < 20) = true := by simp; omega
  have hl0 : 0 < s.size := by omega
  have hl1 : 1 < s.size := by omega
  have E0 := byte_at s 0 hl0
  have E1 := byte_at s 1 hl1
  rw [h0] at E0
  rw [h1] at E1
  have HG := Lib.hid (fun W => agree_any (1 : Int) (1 : Int) W ⟨by omega, by omega⟩ ⟨by omega, by omega⟩)
  rw [show agreeE (1 : Int) (1 : Int) = 0 from by decide] at HG
  generalize agreeN (1 : Int) (1 : Int) = an at *
  unfold frV zeroFr
  clear h0 h1 hlow hS h2
  refine calls_marksP Tryd.func32 rfl ?_
  simp only [Tryd.ntmps32, List.size_toArray, List.length_cons, List.length_nil, Nat.reduceAdd, Nat.reduceSub, Array.replicate_succ, Array.replicate_zero, List.push_toArray, List.append_toArray, List.nil_append, List.cons_append]
  go_wp2
  refine wp_scope_straight ?_
  go_upto_region 13 with (go_at_call 22; (with_reducible refine (HG.out _).mono ?_); rintro e w2 ⟨rfl, b2⟩; have B2 := Lib.hid (below_bx (below_bx b2)); have HZ2 := Lib.hid (obj_below (obj_alloc HZ.out _) b2 (obj_lt (obj_alloc HZ.out _))); have f0 := cell_row (obj_alloc (obj_alloc (obj_alloc (obj_below (HF.out 0) b2 (obj_lt (HF.out 0))) (.cells #[.int .u32 0] 22)) (.cells #[.pointer (some ⟨w.heap.size + 1, 4, none⟩), .pointer (some ⟨w.heap.size + 1, 5, none⟩), .pointer (some ⟨w.heap.size + 1, 6, none⟩), .pointer (some ⟨w2.heap.size, 0, none⟩)] 69)) (.cells #[.slice (some ⟨w2.heap.size + 1, 0, none⟩) 4 4] 70)) 0; simp only [List.getElem?_toArray, List.getElem?_cons_zero] at f0; have hgt : w.heap.size + 2 ≤ w2.heap.size := (by have hq := b2.size; simp only [World.size_alloc] at hq; omega); have m0 : ¬ (w.heap.size + 1 = w2.heap.size) := (by omega); have m1 : ¬ (w.heap.size = w2.heap.size) := (by omega); have m2 : ¬ (w.heap.size = w2.heap.size + 1) := (by omega); have m3 : ¬ (w.heap.size + 1 = w2.heap.size + 1 + 1) := (by omega); have m4 : ¬ (w.heap.size = w2.heap.size + 1 + 1) := (by omega); clear b2)
  have HZ3 := Lib.hid (obj_alloc (obj_alloc (obj_alloc HZ2.out (.cells #[.int .u32 0] 22)) (.cells #[.pointer (some ⟨w.heap.size + 1, 4, none⟩), .pointer (some ⟨w.heap.size + 1, 5, none⟩), .pointer (some ⟨w.heap.size + 1, 6, none⟩), .pointer (some ⟨w2.heap.size, 0, none⟩)] 69)) (.cells #[.slice (some ⟨w2.heap.size + 1, 0, none⟩) 4 4] 70))
  have hle : w.heap.size ≤ w2.heap.size := by omega
  have B3 := Lib.hid (((B2.out.alloc hle (.cells #[.int .u32 0] 22)).alloc (by simp; omega) (.cells #[.pointer (some ⟨w.heap.size + 1, 4, none⟩), .pointer (some ⟨w.heap.size + 1, 5, none⟩), .pointer (some ⟨w.heap.size + 1, 6, none⟩), .pointer (some ⟨w2.heap.size, 0, none⟩)] 69)).alloc (by simp; omega) (.cells #[.slice (some ⟨w2.heap.size + 1, 0, none⟩) 4 4] 70))
  have g1 := (HS.out.below B3.out).c0
  generalize (((w2.alloc (.cells #[.int .u32 0] 22)).alloc (.cells #[.pointer (some ⟨w.heap.size + 1, 4, none⟩), .pointer (some ⟨w.heap.size + 1, 5, none⟩), .pointer (some ⟨w.heap.size + 1, 6, none⟩), .pointer (some ⟨w2.heap.size, 0, none⟩)] 69)).alloc (.cells #[.slice (some ⟨w2.heap.size + 1, 0, none⟩) 4 4] 70)) = W at *
  clear f0
  obtain ⟨d0, d1, d2, d3, d4, d5, d6, d7, d8, df, dl⟩ := cells9 HZ3.out
  have k0 := df 0
  have k1 := df 1
  have k2 := df 2
  have k3 := df 3
  have k4 := df 4
  have k5 := df 5
  have k6 := df 6
  have k7 := df 7
  have k8 := df 8
  clear df

  go_region
  all_goals
    go_wp2
    rw [Exit.noGoto_ret]
    refine leaves_plain ?_ ⟨rfl, ?_⟩
    rotate_left
    · refine Below.drew ?_
      repeat first | with_reducible exact B3.out | (with_reducible refine Below.setCell ?_ (by first | exact Nat.le_refl _ | exact Nat.le_succ _) _)
    · rw [results_cell2 rfl]
      go_simp
set_option maxRecDepth 100000 in
set_option maxHeartbeats 4000000 in
theorem read_less2 (s : ByteArray) (a0 a1 : Addr) (w : World) (hs : s.size ≤ 1000000) (hS : Snt w a0 a1) (h2 : 2 ≤ s.size) (h0 : byteN s 0 = 72) (h1 : byteN s 1 = 2) (hz : s.size < 24) :
    Calls Tryd.prog 32 #[.string s] w fun e w' => e = .returned (.tuple #[frV zeroFr, .iface 96 (.pointer (some a0))]) ∧ Below w.heap.size w w' := by
  have HZ := Lib.hid (World.alloc_heap_new w (.cells #[.int .i64 0, .int .i64 0, .int .i64 0, .int .i64 0, .int .u32 0, .int .u32 0, .int .u32 0, .int .u32 0, .string ⟨#[]⟩] 24))
  have HF := Lib.hid (fun _ : Nat => (show ((w.alloc (.cells #[.int .i64 0, .int .i64 0, .int .i64 0, .int .i64 0, .int .u32 0, .int .u32 0, .int .u32 0, .int .u32 0, .string ⟨#[]⟩] 24)).alloc (.cells #[.int .i64 2, .int .i64 0, .int .i64 0, .int .i64 0, .int .u32 0, .int .u32 0, .int .u32 0, .int .u32 0, .string ⟨#[]⟩] 24)).heap[w.heap.size + 1]? = some (.cells #[.int .i64 2, .int .i64 0, .int .i64 0, .int .i64 0, .int .u32 0, .int .u32 0, .int .u32 0, .int .u32 0, .string ⟨#[]⟩] 24 (0, 0)) from by have := World.alloc_heap_new (w.alloc (.cells #[.int .i64 0, .int .i64 0, .int .i64 0, .int .i64 0, .int .u32 0, .int .u32 0, .int .u32 0, .int .u32 0, .string ⟨#[]⟩] 24)) (.cells #[.int .i64 2, .int .i64 0, .int .i64 0, .int .i64 0, .int .u32 0, .int .u32 0, .int .u32 0, .int .u32 0, .string ⟨#[]⟩] 24); rwa [World.size_alloc] at this))
  have hlow : 1 < w.heap.size := World.block_lt_of_cell? _ _ hS.c1
  have n0 : ¬ (0 = w.heap.size) := by omega
  have n1 : ¬ (w.heap.size = 0) := by omega
  have n2 : ¬ (1 = w.heap.size) := by omega
  have n3 : ¬ (w.heap.size = 1) := by omega
  have HS := Lib.hid hS
  have e1 : decide ((s.size : Int) < 2) = false := by simp; omega
  have e5 : decide ((s.size : Int) < 24) = true := by simp; omega
  have hl0 : 0 < s.size := by omega
  have hl1 : 1 < s.size := by omega
  have E0 := byte_at s 0 hl0
  have E1 := byte_at s 1 hl1
  rw [h0] at E0
  rw [h1] at E1
  have HG := Lib.hid (fun W => agree_any (2 : Int) (2 : Int) W ⟨by omega, by omega⟩ ⟨by omega, by omega⟩)
  rw [show agreeE (2 : Int) (2 : Int) = 0 from by decide] at HG
  generalize agreeN (2 : Int) (2 : Int) = an at *
  unfold frV zeroFr
  clear h0 h1 hlow hS h2
  refine calls_marksP Tryd.func32 rfl ?_
  simp only [Tryd.ntmps32, List.size_toArray, List.length_cons, List.length_nil, Nat.reduceAdd, Nat.reduceSub, Array.replicate_succ, Array.replicate_zero, List.push_toArray, List.append_toArray, List.nil_append, List.cons_append]
  go_wp2
  refine wp_scope_straight ?_
  go_upto_region 13 with (go_at_call 22; (with_reducible refine (HG.out _).mono ?_); rintro e w2 ⟨rfl, b2⟩; have B2 := Lib.hid (below_bx (below_bx b2)); have HZ2 := Lib.hid (obj_below (obj_alloc HZ.out _) b2 (obj_lt (obj_alloc HZ.out _))); have f0 := cell_row (obj_alloc (obj_alloc (obj_alloc (obj_below (HF.out 0) b2 (obj_lt (HF.out 0))) (.cells #[.int .u32 0] 22)) (.cells #[.pointer (some ⟨w.heap.size + 1, 4, none⟩), .pointer (some ⟨w.heap.size + 1, 5, none⟩), .pointer (some ⟨w.heap.size + 1, 6, none⟩), .pointer (some ⟨w2.heap.size, 0, none⟩)] 69)) (.cells #[.slice (some ⟨w2.heap.size + 1, 0, none⟩) 4 4] 70)) 0; simp only [List.getElem?_toArray, List.getElem?_cons_zero] at f0; have hgt : w.heap.size + 2 ≤ w2.heap.size := (by have hq := b2.size; simp only [World.size_alloc] at hq; omega); have m0 : ¬ (w.heap.size + 1 = w2.heap.size) := (by omega); have m1 : ¬ (w.heap.size = w2.heap.size) := (by omega); have m2 : ¬ (w.heap.size = w2.heap.size + 1) := (by omega); have m3 : ¬ (w.heap.size + 1 = w2.heap.size + 1 + 1) := (by omega); have m4 : ¬ (w.heap.size = w2.heap.size + 1 + 1) := (by omega); clear b2)
  have HZ3 := Lib.hid (obj_alloc (obj_alloc (obj_alloc (obj_alloc HZ2.out (.cells #[.int .u32 0] 22)) (.cells #[.pointer (some ⟨w.heap.size + 1, 4, none⟩), .pointer (some ⟨w.heap.size + 1, 5, none⟩), .pointer (some ⟨w.heap.size + 1, 6, none⟩), .pointer (some ⟨w2.heap.size, 0, none⟩)] 69)) (.cells #[.slice (some ⟨w2.heap.size + 1 + 1 + 1, 0, none⟩) 5 5] 70)) (.cells #[.pointer (some ⟨w.heap.size + 1, 4, none⟩), .pointer (some ⟨w.heap.size + 1, 5, none⟩), .pointer (some ⟨w.heap.size + 1, 6, none⟩), .pointer (some ⟨w.heap.size + 1, 7, none⟩), .pointer (some ⟨w2.heap.size, 0, none⟩)] 69))
  have hle : w.heap.size ≤ w2.heap.size := by omega
  have B3 := Lib.hid ((((B2.out.alloc hle (.cells #[.int .u32 0] 22)).alloc (by simp; omega) (.cells #[.pointer (some ⟨w.heap.size + 1, 4, none⟩), .pointer (some ⟨w.heap.size + 1, 5, none⟩), .pointer (some ⟨w.heap.size + 1, 6, none⟩), .pointer (some ⟨w2.heap.size, 0, none⟩)] 69)).alloc (by simp; omega) (.cells #[.slice (some ⟨w2.heap.size + 1 + 1 + 1, 0, none⟩) 5 5] 70)).alloc (by simp; omega) (.cells #[.pointer (some ⟨w.heap.size + 1, 4, none⟩), .pointer (some ⟨w.heap.size + 1, 5, none⟩), .pointer (some ⟨w.heap.size + 1, 6, none⟩), .pointer (some ⟨w.heap.size + 1, 7, none⟩), .pointer (some ⟨w2.heap.size, 0, none⟩)] 69))
  have g1 := (HS.out.below B3.out).c0
  generalize ((((w2.alloc (.cells #[.int .u32 0] 22)).alloc (.cells #[.pointer (some ⟨w.heap.size + 1, 4, none⟩), .pointer (some ⟨w.heap.size + 1, 5, none⟩), .pointer (some ⟨w.heap.size + 1, 6, none⟩), .pointer (some ⟨w2.heap.size, 0, none⟩)] 69)).alloc (.cells #[.slice (some ⟨w2.heap.size + 1 + 1 + 1, 0, none⟩) 5 5] 70)).alloc (.cells #[.pointer (some ⟨w.heap.size + 1, 4, none⟩), .pointer (some ⟨w.heap.size + 1, 5, none⟩), .pointer (some ⟨w.heap.size + 1, 6, none⟩), .pointer (some ⟨w.heap.size + 1, 7, none⟩), .pointer (some ⟨w2.heap.size, 0, none⟩)] 69)) = W at *
  clear f0
  obtain ⟨d0, d1, d2, d3, d4, d5, d6, d7, d8, df, dl⟩ := cells9 HZ3.out
  have k0 := df 0
  have k1 := df 1
  have k2 := df 2
  have k3 := df 3
  have k4 := df 4
  have k5 := df 5
  have k6 := df 6
  have k7 := df 7
  have k8 := df 8
  clear df

  go_region
  all_goals
    go_wp2
    rw [Exit.noGoto_ret]
    refine leaves_plain ?_ ⟨rfl, ?_⟩
    rotate_left
    · refine Below.drew ?_
      repeat first | with_reducible exact B3.out | (with_reducible refine Below.setCell ?_ (by first | exact Nat.le_refl _ | exact Nat.le_succ _) _)
    · rw [results_cell2 rfl]
      go_simp
end Go.Proofs.YtcbihioflmfgjaaDoor
