/-
  A frame of bytes: read of all bytes, errno of its errors, Decode. Conditions: at most a million bytes; the two sentinels stand in memory.
-/
import Derived.Test.YtcbihioflmfgjaaDoorFrmJ
import Derived.Test.YtcbihioflmfgjaaDoorFrmM
namespace Ros
open Go Go.RowKit
theorem readE_cases (s : ByteArray) : readE s = 0 ∨ readE s = 20 ∨ readE s = 22 := by
  unfold readE
  repeat' split
  all_goals simp
@[irreducible] def decE (s : ByteArray) : Int := if openB (bl s) = true then readE (str (openL (bl s))) else 21
theorem str_size (l : List UInt8) : (str l).size = l.length := by rw [size_bl, bl_str]
theorem openL_len (l : List UInt8) : (openL l).length ≤ l.length := by
  cases h : openB l with
  | true => rw [openL_yes h]; simp
  | false => rw [openL_no h]; simp
end Ros
namespace Go.Proofs.YtcbihioflmfgjaaDoor
open Go.RowKit Go.Shelf Ros Go.Maps
attribute [local go_sem] Oper.semAt_some
set_option linter.unusedVariables false
@[irreducible] def decR (s : ByteArray) : Fr := if openB (bl s) = true then readR (str (openL (bl s))) else zeroFr
theorem read_any (s : ByteArray) (a0 a1 : Addr) (w : World) (hs : s.size ≤ 1000000) (hS : Snt w a0 a1) :
    Calls Tryd.prog 32 #[.string s] w fun e w' => e = .returned (.tuple #[frV (readR s), errV a0 a1 (readE s)]) ∧ Below w.heap.size w w' := by
  have fin : ∀ n : Int, readE s = n → n ≠ 0 → frV (readR s) = frV zeroFr := fun n e hn => by unfold readR; rw [if_neg (by rw [e]; exact hn)]
  by_cases h : s.size < 2 ∨ byteN s 0 ≠ 72
  · have e : readE s = 20 := by unfold readE; rw [if_pos h]
    rw [fin _ e (by omega), e]
    exact read_short s a0 a1 w hs hS h
  · have h2 : 2 ≤ s.size := by omega
    have h0 : byteN s 0 = 72 := by omega
    by_cases h1 : isW (byteN s 1 : Int)
    · have h12 : byteN s 1 = 1 ∨ byteN s 1 = 2 := by unfold isW at h1; omega
      by_cases hz : s.size < aheadN s
      · have e : readE s = 20 := by unfold readE; rw [if_neg h, if_neg (not_not_intro h1), if_pos hz]
        rw [fin _ e (by omega), e]
        rcases h12 with h12 | h12
        · exact read_less1 s a0 a1 w hs hS h2 h0 h12 (by unfold aheadN at hz; rw [h12] at hz; simpa using hz)
        · exact read_less2 s a0 a1 w hs hS h2 h0 h12 (by unfold aheadN at hz; rw [h12] at hz; simpa using hz)
      · rcases h12 with h12 | h12
        · exact read_full1 s a0 a1 w hs hS h0 h12 (by unfold aheadN at hz; rw [h12] at hz; simp at hz; omega)
        · exact read_full2 s a0 a1 w hs hS h0 h12 (by unfold aheadN at hz; rw [h12] at hz; simp at hz; omega)
    · have e : readE s = 22 := by unfold readE; rw [if_neg h, if_pos h1]
      rw [fin _ e (by omega), e]
      exact read_old s a0 a1 w hs hS h2 h0 h1
theorem errno_of (a0 a1 : Addr) (e : Int) (he : e = 0 ∨ e = 20 ∨ e = 22) (w : World) (h : Snt w a0 a1) : Calls Tryd.prog 33 #[errV a0 a1 e] w fun r w' => r = .returned (.int .i64 e) ∧ w = w' := by
  rcases he with rfl | rfl | rfl
  · exact errno_nil w
  · exact errno_frame a0 a1 w h
  · exact errno_old a0 a1 w h
theorem errV_iface (a0 a1 : Addr) (e : Int) : errV a0 a1 e = .nilIface ∨ ∃ v, errV a0 a1 e = .iface 96 v := by
  unfold errV
  split
  · exact .inl rfl
  · split <;> exact .inr ⟨_, rfl⟩
theorem results_fr0 {fn : Func} {p q : Tmp} (hf : fn.results = #[.cell p 24, .tmp q]) {tmps : Array Value} {V : World} {Z : Nat} {i0 i1 i2 i3 i4 i5 i6 i7 : Int} {s : ByteArray} (h : V.heap[Z]? = some (.cells #[.int .i64 i0, .int .i64 i1, .int .i64 i2, .int .i64 i3, .int .u32 i4, .int .u32 i5, .int .u32 i6, .int .u32 i7, .string s] 24 (0, 0)))
    (hp : tmps.getD p undef = .pointer (some ⟨Z, 0, none⟩)) : (results fn tmps).run Tryd.prog V = .ok (.tuple #[.agg #[.int .i64 i0, .int .i64 i1, .int .i64 i2, .int .i64 i3, .int .u32 i4, .int .u32 i5, .int .u32 i6, .int .u32 i7, .string s], tmps.getD q undef]) V := by
  rw [results_cell2 hf, hp]
  have hl := loadFr h
  simp only [asAddr, Sem.run_pure, Result.andThen_ok, hl]
set_option maxRecDepth 100000 in
set_option maxHeartbeats 4000000 in
theorem decode_any (s : ByteArray) (a0 a1 : Addr) (w : World) (hs : s.size ≤ 1000000) (hS : Snt w a0 a1) :
    Calls Tryd.prog 18 #[.string s] w fun e w' => e = .returned (.tuple #[frV (decR s), .int .i64 (decE s)]) ∧ Below w.heap.size w w' := by
  have HO := Lib.hid (fun W => open_all s W (by unfold maxLen; omega))
  have HZ := Lib.hid (World.alloc_heap_new w (.cells #[.int .i64 0, .int .i64 0, .int .i64 0, .int .i64 0, .int .u32 0, .int .u32 0, .int .u32 0, .int .u32 0, .string ⟨#[]⟩] 24))
  have HS := Lib.hid hS
  cases ho : openB (bl s) with
  | false =>
    rw [ho] at HO
    rw [show decR s = zeroFr by unfold decR; rw [ho]; rfl, show decE s = 21 by unfold decE; rw [ho]; rfl]
    unfold frV zeroFr
    generalize str (openL (bl s)) = u at *
    clear ho hS
    go_enter Tryd.func18, Tryd.ntmps18
    go_wp2_with (go_at_call 31; (with_reducible refine (HO.out _).mono ?_); rintro e w2 ⟨rfl, b2⟩; have B2 := Lib.hid (below_bx b2); obtain ⟨d0, d1, d2, d3, d4, d5, d6, d7, d8, df, dl⟩ := cells9 (obj_below HZ.out b2 (obj_lt HZ.out)); have g0 := df 0; have g1 := df 1; have g2 := df 2; have g3 := df 3; have g4 := df 4; have g5 := df 5; have g6 := df 6; have g7 := df 7; have g8 := df 8; clear b2 df)
    refine bodyPost_ret ?_ rfl ⟨rfl, ?_⟩
    rotate_left
    · repeat first | with_reducible exact B2.out | (with_reducible refine Below.setCell ?_ (by first | exact Nat.le_refl _ | exact Nat.le_succ _) _)
    · rw [results_cell2 rfl]
      go_simp
  | true =>
    rw [ho] at HO
    rw [show decR s = readR (str (openL (bl s))) by unfold decR; rw [ho]; rfl, show decE s = readE (str (openL (bl s))) by unfold decE; rw [ho]; rfl]
    have hus : (str (openL (bl s))).size ≤ 1000000 := by
      rw [str_size]
      have := openL_len (bl s)
      rw [← size_bl] at this
      omega
    generalize str (openL (bl s)) = u at *
    have HR := Lib.hid (fun (W : World) (h : Below w.heap.size w W) => read_any u a0 a1 W hus (HS.out.below h))
    have HE := Lib.hid (fun (W : World) (h : Below w.heap.size w W) => errno_of a0 a1 (readE u) (readE_cases u) W (HS.out.below h))
    have hef := errV_iface a0 a1 (readE u)
    generalize readE u = re at *
    generalize readR u = x at *
    generalize errV a0 a1 re = ev at *
    unfold frV at HR ⊢
    clear ho hS hus
    go_enter Tryd.func18, Tryd.ntmps18
    go_upto_region 5 with (first
      | (go_at_call 31; (with_reducible refine (HO.out _).mono ?_); rintro e w2 ⟨rfl, b2⟩; have B2 := Lib.hid (below_bx b2); have Z2 := Lib.hid (obj_below HZ.out b2 (obj_lt HZ.out)); clear b2)
      | (go_at_call 32; (with_reducible refine (HR.out _ B2.out).mono ?_); rintro e w3 ⟨rfl, b3⟩; have B3 := Lib.hid (btL2 B2.out b3); have Z3 := Lib.hid (obj_below Z2.out b3 (obj_lt Z2.out)); clear b3))
    have hle := B3.out.size
    have B5 := Lib.hid (B3.out.alloc hle (.cells #[.int .i64 x.wire, .int .i64 x.kind, .int .i64 x.src, .int .i64 x.dst, .int .u32 (x.life : Int), .int .u32 (x.seq : Int), .int .u32 (x.ack : Int), .int .u32 (x.hint : Int), .string x.data] 24))
    have Z5 := Lib.hid (obj_alloc Z3.out (.cells #[.int .i64 x.wire, .int .i64 x.kind, .int .i64 x.src, .int .i64 x.dst, .int .u32 (x.life : Int), .int .u32 (x.seq : Int), .int .u32 (x.ack : Int), .int .u32 (x.hint : Int), .string x.data] 24))
    have X5 := World.alloc_heap_new w3 (.cells #[.int .i64 x.wire, .int .i64 x.kind, .int .i64 x.src, .int .i64 x.dst, .int .u32 (x.life : Int), .int .u32 (x.seq : Int), .int .u32 (x.ack : Int), .int .u32 (x.hint : Int), .string x.data] 24)
    have hlt : w.heap.size < w3.heap.size := obj_lt Z3.out
    have n5 : ¬ (w3.heap.size = w.heap.size) := by omega
    have n6 : ¬ (w.heap.size = w3.heap.size) := by omega
    generalize w3.alloc (.cells #[.int .i64 x.wire, .int .i64 x.kind, .int .i64 x.src, .int .i64 x.dst, .int .u32 (x.life : Int), .int .u32 (x.seq : Int), .int .u32 (x.ack : Int), .int .u32 (x.hint : Int), .string x.data] 24) = W5 at *
    generalize w3.heap.size = g at *
    obtain ⟨c0, c1, c2, c3, c4, c5, c6, c7, c8, _, _⟩ := cells9 X5
    obtain ⟨d0, d1, d2, d3, d4, d5, d6, d7, d8, df, dl⟩ := cells9 Z5.out
    have k0 := df 0
    have k1 := df 1
    have k2 := df 2
    have k3 := df 3
    have k4 := df 4
    have k5 := df 5
    have k6 := df 6
    have k7 := df 7
    have k8 := df 8
    clear df X5 hle hlt
    go_region_law ((first
      | (go_simp; go_at_call 33; (with_reducible refine (HE.out _ (by first | exact B5.out | exact B5.out.drew | (refine Below.drew ?_; repeat first | exact B5.out | (refine Below.setCell ?_ (Nat.le_refl _) _)))).mono ?_); rintro e w6 ⟨rfl, rfl⟩)))
    all_goals
      have HST := Lib.hid (fr_stored (.int .i64 x.wire) (.int .i64 x.kind) (.int .i64 x.src) (.int .i64 x.dst) (.int .u32 (x.life : Int)) (.int .u32 (x.seq : Int)) (.int .u32 (x.ack : Int)) (.int .u32 (x.hint : Int)) (.string x.data) Z5.out)
      generalize (((((((((W5.setCell ⟨w.heap.size, 0, none⟩ (.int .i64 x.wire)).setCell ⟨w.heap.size, 1, none⟩ (.int .i64 x.kind)).setCell ⟨w.heap.size, 2, none⟩ (.int .i64 x.src)).setCell ⟨w.heap.size, 3, none⟩ (.int .i64 x.dst)).setCell ⟨w.heap.size, 4, none⟩ (.int .u32 (x.life : Int))).setCell ⟨w.heap.size, 5, none⟩ (.int .u32 (x.seq : Int))).setCell ⟨w.heap.size, 6, none⟩ (.int .u32 (x.ack : Int))).setCell ⟨w.heap.size, 7, none⟩ (.int .u32 (x.hint : Int))).setCell ⟨w.heap.size, 8, none⟩ (.string x.data)).drew = V at *
      clear d0 d1 d2 d3 d4 d5 d6 d7 d8 k0 k1 k2 k3 k4 k5 k6 k7 k8 dl c0 c1 c2 c3 c4 c5 c6 c7 c8
      go_wp2
      exact bodyPost_ret (results_fr0 rfl HST.out.at_ rfl) rfl ⟨rfl, HST.out.below _ _ (Nat.le_refl _) B5.out⟩
end Go.Proofs.YtcbihioflmfgjaaDoor
