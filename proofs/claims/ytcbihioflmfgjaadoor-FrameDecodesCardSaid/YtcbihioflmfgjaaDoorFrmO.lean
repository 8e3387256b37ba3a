/-
  The document's frame of bytes. Conditions: at most a million bytes.
-/
import Derived.Test.YtcbihioflmfgjaaDoorFrmN
namespace Go.Proofs.YtcbihioflmfgjaaDoor
open Go.RowKit Go.Shelf Ros Go.Maps
attribute [local go_sem] Oper.semAt_some
set_option linter.unusedVariables false
theorem wrap_i64 {n : Nat} (h : n ≤ 1000000) : IntKind.i64.wrap (n : Int) = (n : Int) := by
  simp [IntKind.wrap, IntKind.bits, IntKind.signed]
  omega
theorem wrap_quo {n : Nat} (h : n < 256) : IntKind.i64.wrap (IntKind.u8.wrap ((n : Int) / 16)) = (n : Int) / 16 := by
  simp [IntKind.wrap, IntKind.bits, IntKind.signed]
  omega
theorem wrap_rem (n : Nat) : IntKind.i64.wrap ((n : Int).tmod 16) = (n : Int) % 16 := by
  rw [Int.tmod_eq_emod_of_nonneg (by omega)]
  simp [IntKind.wrap, IntKind.bits, IntKind.signed]
  omega
theorem rd_endE (s : ByteArray) (x : Fr) (N ah : Nat) (h0 : byteN s 0 = 72) (h1 : isW (byteN s 1 : Int)) (hz : ah ≤ s.size) (h2 : 2 ≤ ah) (hf : frameOf s = x) (hn : sizeN s = N) (ha : aheadN s = ah) :
    (N ≠ s.size - ah ∨ rightB x = false → readE s = 20 ∧ readR s = zeroFr) ∧ (N = s.size - ah → rightB x = true → readE s = 0 ∧ readR s = x) := by
  have e : readE s = if N ≠ s.size - ah ∨ rightB x = false then 20 else 0 := by
    unfold readE
    rw [if_neg (by omega), if_neg (not_not_intro h1), if_neg (by omega), hf, hn, ha]
  constructor
  · intro h
    rw [if_pos h] at e
    exact ⟨e, by unfold readR; rw [e]; rfl⟩
  · intro hN hr
    rw [if_neg (by rw [hr]; simp [hN])] at e
    exact ⟨e, by unfold readR; rw [e, if_pos rfl, hf]⟩
theorem num_step {w W w' : World} {o : Obj} (hB : Below w.heap.size w W) (hZ : W.heap[w.heap.size]? = some o) (hb : Below W.heap.size W w') : Below w.heap.size w w' ∧ w'.heap[w.heap.size]? = some o := ⟨btL2 hB hb, obj_below hZ hb (obj_lt hZ)⟩
theorem num_stepA {w W w' : World} {o O : Obj} (hB : Below w.heap.size w W) (hZ : W.heap[w.heap.size]? = some o) (hb : Below (W.alloc O).heap.size (W.alloc O) w') : Below w.heap.size w w' ∧ w'.heap[w.heap.size]? = some o :=
  ⟨btL2 (hB.alloc hB.size O) hb, obj_below (obj_alloc hZ O) hb (obj_lt (obj_alloc hZ O))⟩
theorem num_stepD {w W w' : World} {o O : Obj} (hB : Below w.heap.size w W) (hZ : W.heap[w.heap.size]? = some o) (hb : Below (W.alloc O).drew.heap.size (W.alloc O).drew w') : Below w.heap.size w w' ∧ w'.heap[w.heap.size]? = some o :=
  ⟨btL2 (hB.alloc hB.size O).drew hb, obj_below (w := (W.alloc O).drew) (obj_alloc hZ O) hb (obj_lt (obj_alloc hZ O))⟩
theorem num_stepY {W w' : World} {O : Obj} (hb : Below (W.alloc O).drew.heap.size (W.alloc O).drew w') : w'.heap[W.heap.size]? = some O := obj_below (w := (W.alloc O).drew) (World.alloc_heap_new W O) hb (obj_lt (World.alloc_heap_new W O))
theorem num_stepX {W w' : World} {O : Obj} (hb : Below (W.alloc O).heap.size (W.alloc O) w') : w'.heap[W.heap.size]? = some O := obj_below (World.alloc_heap_new W O) hb (obj_lt (World.alloc_heap_new W O))
set_option maxRecDepth 100000 in
theorem num_any (s : ByteArray) (i : Nat) (h : i + 4 ≤ s.size) (hs : s.size ≤ 1000000) (w : World) :
    Calls Tryd.prog 35 #[.string s, .int .i64 (i : Int)] w fun e w' => e = .returned (.int .u32 (numN s i : Int)) ∧ Below w.heap.size w w' := by
  have HSL := fun W => slF_ab (P := Tryd.prog) Tryd.underlying9 s i (i + 4) (by omega) h (i : Int) ((i : Int) + 4) rfl (by omega) W
  have HGT := Lib.hid (fun W => refget_all (s.extract i (i + 4)) W)
  unfold numN
  generalize s.extract i (i + 4) = ch at *
  have hi : i < 1000000 := by omega
  go_enter Tryd.func35, Tryd.ntmps35
  go_wp2_with (go_at_call 44; (with_reducible refine (HGT.out _).mono ?_); rintro e w2 ⟨rfl, b2⟩)
  go_ret
  exact ⟨rfl, b2⟩
set_option maxRecDepth 100000 in
set_option maxHeartbeats 4000000 in
theorem refdec_two (s u : ByteArray) (w : World) (hu : u.size ≤ 1000000) (HO : Hid (∀ W : World, Calls Tryd.prog 34 #[.string s] W fun e w' => e = .returned (.tuple #[.string u, .bool true]) ∧ Below W.heap.size W w')) (h : u.size < 2) :
    Calls Tryd.prog 19 #[.string s] w fun e w' => e = .returned (.tuple #[frV zeroFr, .int .i64 20]) ∧ Below w.heap.size w w' := by
  have HZ := Lib.hid (World.alloc_heap_new w (.cells #[.int .i64 0, .int .i64 0, .int .i64 0, .int .i64 0, .int .u32 0, .int .u32 0, .int .u32 0, .int .u32 0, .string ⟨#[]⟩] 24))
  have e1 : decide ((u.size : Int) ≥ 2) = false := by simp; omega
  have e2 : decide ((u.size : Int) < 20) = true := by simp; omega
  unfold frV zeroFr
  go_enter Tryd.func19, Tryd.ntmps19
  go_wp2_with ((go_at_call 34; (with_reducible refine (HO.out _).mono ?_); rintro e w2 ⟨rfl, b2⟩; have B2 := Lib.hid (below_bx b2); have Z2 := Lib.hid (obj_below HZ.out b2 (obj_lt HZ.out)); obtain ⟨d0, d1, d2, d3, d4, d5, d6, d7, d8, df, dl⟩ := cells9 Z2.out; have k0 := df 0; have k1 := df 1; have k2 := df 2; have k3 := df 3; have k4 := df 4; have k5 := df 5; have k6 := df 6; have k7 := df 7; have k8 := df 8; clear b2 df))
  refine bodyPost_ret ?_ rfl ⟨rfl, ?_⟩
  rotate_left
  · repeat first | with_reducible exact B2.out | (with_reducible refine Below.setCell ?_ (by first | exact Nat.le_refl _ | exact Nat.le_succ _) _)
  · rw [results_cell2 rfl]
    go_simp
set_option maxRecDepth 100000 in
set_option maxHeartbeats 4000000 in
theorem refdec_mark1 (s u : ByteArray) (w : World) (hu : u.size ≤ 1000000) (HO : Hid (∀ W : World, Calls Tryd.prog 34 #[.string s] W fun e w' => e = .returned (.tuple #[.string u, .bool true]) ∧ Below W.heap.size W w')) (h2 : 2 ≤ u.size) (h : byteN u 0 ≠ 72) (hz : u.size < 20) :
    Calls Tryd.prog 19 #[.string s] w fun e w' => e = .returned (.tuple #[frV zeroFr, .int .i64 20]) ∧ Below w.heap.size w w' := by
  have HZ := Lib.hid (World.alloc_heap_new w (.cells #[.int .i64 0, .int .i64 0, .int .i64 0, .int .i64 0, .int .u32 0, .int .u32 0, .int .u32 0, .int .u32 0, .string ⟨#[]⟩] 24))
  have hl0 : 0 < u.size := by omega
  have hl1 : 1 < u.size := by omega
  have E0 := byte_at u 0 hl0
  have E1 := byte_at u 1 hl1
  have e1 : decide ((u.size : Int) ≥ 2) = true := by simp; omega
  have e3 : ((byteN u 0 : Int) == 72) = false := by rw [beq_eq_false_iff_ne]; omega
  have e4 : ((byteN u 0 : Int) != 72) = true := by rw [bne_iff_ne]; omega
  generalize byteN u 0 = b0 at *
  clear h E1
  have e2 : decide ((u.size : Int) < 20) = true := by simp; omega
  unfold frV zeroFr
  go_enter Tryd.func19, Tryd.ntmps19
  go_wp2_with ((go_at_call 34; (with_reducible refine (HO.out _).mono ?_); rintro e w2 ⟨rfl, b2⟩; have B2 := Lib.hid (below_bx b2); have Z2 := Lib.hid (obj_below HZ.out b2 (obj_lt HZ.out)); obtain ⟨d0, d1, d2, d3, d4, d5, d6, d7, d8, df, dl⟩ := cells9 Z2.out; have k0 := df 0; have k1 := df 1; have k2 := df 2; have k3 := df 3; have k4 := df 4; have k5 := df 5; have k6 := df 6; have k7 := df 7; have k8 := df 8; clear b2 df))
  refine bodyPost_ret ?_ rfl ⟨rfl, ?_⟩
  rotate_left
  · repeat first | with_reducible exact B2.out | (with_reducible refine Below.setCell ?_ (by first | exact Nat.le_refl _ | exact Nat.le_succ _) _)
  · rw [results_cell2 rfl]
    go_simp
set_option maxRecDepth 100000 in
set_option maxHeartbeats 4000000 in
theorem refdec_mark2 (s u : ByteArray) (w : World) (hu : u.size ≤ 1000000) (HO : Hid (∀ W : World, Calls Tryd.prog 34 #[.string s] W fun e w' => e = .returned (.tuple #[.string u, .bool true]) ∧ Below W.heap.size W w')) (h2 : 2 ≤ u.size) (h : byteN u 0 ≠ 72) (hz : 20 ≤ u.size) :
    Calls Tryd.prog 19 #[.string s] w fun e w' => e = .returned (.tuple #[frV zeroFr, .int .i64 20]) ∧ Below w.heap.size w w' := by
  have HZ := Lib.hid (World.alloc_heap_new w (.cells #[.int .i64 0, .int .i64 0, .int .i64 0, .int .i64 0, .int .u32 0, .int .u32 0, .int .u32 0, .int .u32 0, .string ⟨#[]⟩] 24))
  have hl0 : 0 < u.size := by omega
  have hl1 : 1 < u.size := by omega
  have E0 := byte_at u 0 hl0
  have E1 := byte_at u 1 hl1
  have e1 : decide ((u.size : Int) ≥ 2) = true := by simp; omega
  have e3 : ((byteN u 0 : Int) == 72) = false := by rw [beq_eq_false_iff_ne]; omega
  have e4 : ((byteN u 0 : Int) != 72) = true := by rw [bne_iff_ne]; omega
  generalize byteN u 0 = b0 at *
  clear h E1
  have e2 : decide ((u.size : Int) < 20) = false := by simp; omega
  unfold frV zeroFr
  go_enter Tryd.func19, Tryd.ntmps19
  go_wp2_with ((go_at_call 34; (with_reducible refine (HO.out _).mono ?_); rintro e w2 ⟨rfl, b2⟩; have B2 := Lib.hid (below_bx b2); have Z2 := Lib.hid (obj_below HZ.out b2 (obj_lt HZ.out)); obtain ⟨d0, d1, d2, d3, d4, d5, d6, d7, d8, df, dl⟩ := cells9 Z2.out; have k0 := df 0; have k1 := df 1; have k2 := df 2; have k3 := df 3; have k4 := df 4; have k5 := df 5; have k6 := df 6; have k7 := df 7; have k8 := df 8; clear b2 df))
  refine bodyPost_ret ?_ rfl ⟨rfl, ?_⟩
  rotate_left
  · repeat first | with_reducible exact B2.out | (with_reducible refine Below.setCell ?_ (by first | exact Nat.le_refl _ | exact Nat.le_succ _) _)
  · rw [results_cell2 rfl]
    go_simp
set_option maxRecDepth 100000 in
set_option maxHeartbeats 4000000 in
theorem refdec_old (s u : ByteArray) (w : World) (hu : u.size ≤ 1000000) (HO : Hid (∀ W : World, Calls Tryd.prog 34 #[.string s] W fun e w' => e = .returned (.tuple #[.string u, .bool true]) ∧ Below W.heap.size W w')) (h2 : 2 ≤ u.size) (h0 : byteN u 0 = 72) (h : ¬ isW (byteN u 1 : Int)) :
    Calls Tryd.prog 19 #[.string s] w fun e w' => e = .returned (.tuple #[frV zeroFr, .int .i64 22]) ∧ Below w.heap.size w w' := by
  have HZ := Lib.hid (World.alloc_heap_new w (.cells #[.int .i64 0, .int .i64 0, .int .i64 0, .int .i64 0, .int .u32 0, .int .u32 0, .int .u32 0, .int .u32 0, .string ⟨#[]⟩] 24))
  have hl0 : 0 < u.size := by omega
  have hl1 : 1 < u.size := by omega
  have E0 := byte_at u 0 hl0
  have E1 := byte_at u 1 hl1
  have e1 : decide ((u.size : Int) ≥ 2) = true := by simp; omega
  rw [h0] at E0
  have HV := Lib.hid (fun W => version_any (byteN u 1 : Int) W)
  rw [decide_eq_false h] at HV
  have hb1 := byteN_lt u 1
  generalize byteN u 1 = b1 at *
  clear h h0
  unfold frV zeroFr
  go_enter Tryd.func19, Tryd.ntmps19
  go_wp2_with (first | (go_at_call 34; (with_reducible refine (HO.out _).mono ?_); rintro e w2 ⟨rfl, b2⟩; have B2 := Lib.hid (below_bx b2); have Z2 := Lib.hid (obj_below HZ.out b2 (obj_lt HZ.out)); obtain ⟨d0, d1, d2, d3, d4, d5, d6, d7, d8, df, dl⟩ := cells9 Z2.out; have k0 := df 0; have k1 := df 1; have k2 := df 2; have k3 := df 3; have k4 := df 4; have k5 := df 5; have k6 := df 6; have k7 := df 7; have k8 := df 8; clear b2 df) | (go_at_call 29; (with_reducible refine (HV.out _).mono ?_); rintro e w3 ⟨rfl, rfl⟩))
  refine bodyPost_ret ?_ rfl ⟨rfl, ?_⟩
  rotate_left
  · repeat first | with_reducible exact B2.out | (with_reducible refine Below.setCell ?_ (by first | exact Nat.le_refl _ | exact Nat.le_succ _) _)
  · rw [results_cell2 rfl]
    go_simp
set_option maxRecDepth 100000 in
set_option maxHeartbeats 4000000 in
theorem refdec_less1 (s u : ByteArray) (w : World) (hu : u.size ≤ 1000000) (HO : Hid (∀ W : World, Calls Tryd.prog 34 #[.string s] W fun e w' => e = .returned (.tuple #[.string u, .bool true]) ∧ Below W.heap.size W w')) (h2 : 2 ≤ u.size) (h0 : byteN u 0 = 72) (h1 : isW (byteN u 1 : Int)) (hz : u.size < 20) :
    Calls Tryd.prog 19 #[.string s] w fun e w' => e = .returned (.tuple #[frV zeroFr, .int .i64 20]) ∧ Below w.heap.size w w' := by
  have HZ := Lib.hid (World.alloc_heap_new w (.cells #[.int .i64 0, .int .i64 0, .int .i64 0, .int .i64 0, .int .u32 0, .int .u32 0, .int .u32 0, .int .u32 0, .string ⟨#[]⟩] 24))
  have hl0 : 0 < u.size := by omega
  have hl1 : 1 < u.size := by omega
  have E0 := byte_at u 0 hl0
  have E1 := byte_at u 1 hl1
  have e1 : decide ((u.size : Int) ≥ 2) = true := by simp; omega
  have e2 : decide ((u.size : Int) < 20) = true := by simp; omega
  rw [h0] at E0
  have HV := Lib.hid (fun W => version_any (byteN u 1 : Int) W)
  rw [decide_eq_true h1] at HV
  have hb1 := byteN_lt u 1
  generalize byteN u 1 = b1 at *
  clear h1 h0
  unfold frV zeroFr
  go_enter Tryd.func19, Tryd.ntmps19
  go_wp2_with (first | (go_at_call 34; (with_reducible refine (HO.out _).mono ?_); rintro e w2 ⟨rfl, b2⟩; have B2 := Lib.hid (below_bx b2); have Z2 := Lib.hid (obj_below HZ.out b2 (obj_lt HZ.out)); obtain ⟨d0, d1, d2, d3, d4, d5, d6, d7, d8, df, dl⟩ := cells9 Z2.out; have k0 := df 0; have k1 := df 1; have k2 := df 2; have k3 := df 3; have k4 := df 4; have k5 := df 5; have k6 := df 6; have k7 := df 7; have k8 := df 8; clear b2 df) | (go_at_call 29; (with_reducible refine (HV.out _).mono ?_); rintro e w3 ⟨rfl, rfl⟩))
  refine bodyPost_ret ?_ rfl ⟨rfl, ?_⟩
  rotate_left
  · repeat first | with_reducible exact B2.out | (with_reducible refine Below.setCell ?_ (by first | exact Nat.le_refl _ | exact Nat.le_succ _) _)
  · rw [results_cell2 rfl]
    go_simp
set_option maxRecDepth 100000 in
set_option maxHeartbeats 4000000 in
theorem refdec_less2 (s u : ByteArray) (w : World) (hu : u.size ≤ 1000000) (HO : Hid (∀ W : World, Calls Tryd.prog 34 #[.string s] W fun e w' => e = .returned (.tuple #[.string u, .bool true]) ∧ Below W.heap.size W w')) (h2 : 20 ≤ u.size) (h0 : byteN u 0 = 72) (h1 : byteN u 1 = 2) (hz : u.size < 24) :
    Calls Tryd.prog 19 #[.string s] w fun e w' => e = .returned (.tuple #[frV zeroFr, .int .i64 20]) ∧ Below w.heap.size w w' := by
  have HZ := Lib.hid (World.alloc_heap_new w (.cells #[.int .i64 0, .int .i64 0, .int .i64 0, .int .i64 0, .int .u32 0, .int .u32 0, .int .u32 0, .int .u32 0, .string ⟨#[]⟩] 24))
  have hl0 : 0 < u.size := by omega
  have hl1 : 1 < u.size := by omega
  have E0 := byte_at u 0 hl0
  have E1 := byte_at u 1 hl1
  have e1 : decide ((u.size : Int) ≥ 2) = true := by simp; omega
  have e2 : decide ((u.size : Int) < 20) = false := by simp; omega
  have e3 : decide ((u.size : Int) < 24) = true := by simp; omega
  rw [h0] at E0
  rw [h1] at E1
  have HV := Lib.hid (fun W => version_any (2 : Int) W)
  rw [decide_eq_true (show isW 2 from .inr rfl)] at HV
  clear h1 h0
  unfold frV zeroFr
  go_enter Tryd.func19, Tryd.ntmps19
  go_wp2_with (first | (go_at_call 34; (with_reducible refine (HO.out _).mono ?_); rintro e w2 ⟨rfl, b2⟩; have B2 := Lib.hid (below_bx b2); have Z2 := Lib.hid (obj_below HZ.out b2 (obj_lt HZ.out)); obtain ⟨d0, d1, d2, d3, d4, d5, d6, d7, d8, df, dl⟩ := cells9 Z2.out; have k0 := df 0; have k1 := df 1; have k2 := df 2; have k3 := df 3; have k4 := df 4; have k5 := df 5; have k6 := df 6; have k7 := df 7; have k8 := df 8; clear b2 df) | (go_at_call 29; (with_reducible refine (HV.out _).mono ?_); rintro e w3 ⟨rfl, rfl⟩))
  refine bodyPost_ret ?_ rfl ⟨rfl, ?_⟩
  rotate_left
  · repeat first | with_reducible exact B2.out | (with_reducible refine Below.setCell ?_ (by first | exact Nat.le_refl _ | exact Nat.le_succ _) _)
  · rw [results_cell2 rfl]
    go_simp
end Go.Proofs.YtcbihioflmfgjaaDoor
