/-
  FrameDecodes: the walk. Conditions: the frame is as its type allows; the two sentinels stand in memory.
-/
import Derived.Test.YtcbihioflmfgjaaDoorFrmT
import Derived.Test.YtcbihioflmfgjaaDoorFrmP
import Derived.Test.YtcbihioflmfgjaaDoorFrmQ
namespace Go.Proofs.YtcbihioflmfgjaaDoor
open Go.RowKit Go.Shelf Ros Go.Maps
attribute [local go_sem] Oper.semAt_some
set_option linter.unusedVariables false
set_option maxRecDepth 100000 in
set_option maxHeartbeats 4000000 in
theorem refdec_bad (s u : ByteArray) (w : World) (HO : Hid (∀ W : World, Calls Tryd.prog 34 #[.string s] W fun e w' => e = .returned (.tuple #[.string u, .bool false]) ∧ Below W.heap.size W w')) :
    Calls Tryd.prog 19 #[.string s] w fun e w' => e = .returned (.tuple #[frV zeroFr, .int .i64 21]) ∧ Below w.heap.size w w' := by
  have HZ := Lib.hid (World.alloc_heap_new w (.cells #[.int .i64 0, .int .i64 0, .int .i64 0, .int .i64 0, .int .u32 0, .int .u32 0, .int .u32 0, .int .u32 0, .string ⟨#[]⟩] 24))
  unfold frV zeroFr
  go_enter Tryd.func19, Tryd.ntmps19
  go_wp2_with ((go_at_call 34; (with_reducible refine (HO.out _).mono ?_); rintro e w2 ⟨rfl, b2⟩; have B2 := Lib.hid (below_bx b2); have Z2 := Lib.hid (obj_below HZ.out b2 (obj_lt HZ.out)); obtain ⟨d0, d1, d2, d3, d4, d5, d6, d7, d8, df, dl⟩ := cells9 Z2.out; have k0 := df 0; have k1 := df 1; have k2 := df 2; have k3 := df 3; have k4 := df 4; have k5 := df 5; have k6 := df 6; have k7 := df 7; have k8 := df 8; clear b2 df))
  refine bodyPost_ret ?_ rfl ⟨rfl, ?_⟩
  rotate_left
  · repeat first | with_reducible exact B2.out | (with_reducible refine Below.setCell ?_ (by first | exact Nat.le_refl _ | exact Nat.le_succ _) _)
  · rw [results_cell2 rfl]
    go_simp
theorem refdecode_any (s : ByteArray) (w : World) (hs : s.size ≤ 1000000) :
    Calls Tryd.prog 19 #[.string s] w fun e w' => e = .returned (.tuple #[frV (decR s), .int .i64 (decE s)]) ∧ Below w.heap.size w w' := by
  have HO := Lib.hid (fun W => refopen_all s W (by unfold maxLen; omega))
  cases ho : openB (bl s) with
  | false =>
    rw [ho] at HO
    rw [decR_bad ho, decE_bad ho]
    exact refdec_bad s _ w HO
  | true =>
    rw [ho] at HO
    rw [decR_yes ho, show decE s = readE (str (openL (bl s))) by unfold decE; rw [ho]; rfl]
    have hu : (str (openL (bl s))).size ≤ 1000000 := by
      rw [str_size]
      have := openL_len (bl s)
      rw [← size_bl] at this
      omega
    generalize str (openL (bl s)) = u at *
    have fin : ∀ n : Int, readE u = n → n ≠ 0 → readR u = zeroFr := fun n e hn => by unfold readR; rw [if_neg (by rw [e]; exact hn)]
    by_cases h2 : u.size < 2
    · have e : readE u = 20 := by unfold readE; rw [if_pos (.inl h2)]
      rw [fin _ e (by omega), e]
      exact refdec_two s u w hu HO h2
    by_cases h0 : byteN u 0 = 72
    · have hn : ¬ (u.size < 2 ∨ byteN u 0 ≠ 72) := by omega
      by_cases h1 : isW (byteN u 1 : Int)
      · have h12 : byteN u 1 = 1 ∨ byteN u 1 = 2 := by unfold isW at h1; omega
        by_cases hz : u.size < 20
        · have ha : 20 ≤ aheadN u := by unfold aheadN; split <;> omega
          have e : readE u = 20 := by unfold readE; rw [if_neg hn, if_neg (not_not_intro h1), if_pos (by omega)]
          rw [fin _ e (by omega), e]
          exact refdec_less1 s u w hu HO (by omega) h0 h1 hz
        rcases h12 with h12 | h12
        · exact refdec_full1 s u w hu HO h0 h12 (by omega)
        · by_cases hz2 : u.size < 24
          · have ha : aheadN u = 24 := by unfold aheadN; rw [h12]; rfl
            have e : readE u = 20 := by unfold readE; rw [if_neg hn, if_neg (not_not_intro h1), if_pos (by omega)]
            rw [fin _ e (by omega), e]
            exact refdec_less2 s u w hu HO (by omega) h0 h12 hz2
          · exact refdec_full2 s u w hu HO h0 h12 (by omega)
      · have e : readE u = 22 := by unfold readE; rw [if_neg hn, if_pos h1]
        rw [fin _ e (by omega), e]
        exact refdec_old s u w hu HO (by omega) h0 h1
    · have e : readE u = 20 := by unfold readE; rw [if_pos (.inr h0)]
      rw [fin _ e (by omega), e]
      by_cases hz : u.size < 20
      · exact refdec_mark1 s u w hu HO (by omega) h0 hz
      · exact refdec_mark2 s u w hu HO (by omega) h0 (by omega)
def cutD (s : ByteArray) : ByteArray := s.extract 0 (min s.size 5000)
theorem cutD_size (s : ByteArray) : (cutD s).size ≤ 5000 := by
  unfold cutD
  rw [ByteArray.size_extract]
  omega
theorem sealD_size (s : ByteArray) : (str (bl s ++ toB 4 (sum (bl s)))).size = s.size + 4 := by
  rw [str_size, List.length_append, toB_length, ← size_bl]
set_option maxRecDepth 100000 in
set_option maxHeartbeats 4000000 in
theorem frameDecodes_walk (s : ByteArray) (sl : Bool) (hsl : s.size ≤ maxLen) (a0 a1 : Addr) (w : World) (hS : Snt w a0 a1) : Calls Tryd.prog 4 #[.string s, .bool sl] w fun e w' => e = .returned (.bool true) ∧ Below w.heap.size w w' := by
  have HSH := Lib.hid (fun (W : World) (h : Below w.heap.size w W) => shownF_any a0 a1 W (hS.below h))
  have hcs := cutD_size s
  have hcd : cutD s = s.extract 0 (min s.size 5000) := rfl
  cases sl with
  | false =>
    have HDE := Lib.hid (fun (W : World) (hb : Below w.heap.size w W) => decode_any (cutD s) a0 a1 W (by omega) (hS.below hb))
    have HDR := Lib.hid (fun W => refdecode_any (cutD s) W (by omega))
    generalize decR (cutD s) = r at *
    generalize decE (cutD s) = re at *
    unfold frV at HDE HDR
    clear hS hsl hcs
    have h3 : s.size < 5000 ∨ s.size = 5000 ∨ 5000 < s.size := by omega
    rcases h3 with h | h | h
    · have HSL : ∀ W, (Instr.slice 9 (.string s) none (some (.int .i64 (s.size : Int))) none).run Tryd.prog W = .ok (.string (cutD s)) W := fun W => by
        rw [hcd, Nat.min_eq_left (by omega)]
        exact slF_h (P := Tryd.prog) Tryd.underlying9 s s.size (Nat.le_refl _) _ rfl W
      have hq5 : ((s.size : Int)) < 5000 := by omega
      clear h hcd
      generalize cutD s = u at *
      go_enter Tryd.func4, Tryd.ntmps4
      go_wp2_with (first | (go_at_call 11; (with_reducible refine (HSH.out _ (Below.refl _ w)).mono ?_); rintro e w1 ⟨rfl, b1⟩; have B1 := Lib.hid b1; clear b1) | (go_at_call 18; (with_reducible refine (HDE.out _ B1.out).mono ?_); rintro e w3 ⟨rfl, b3⟩; have B3 := Lib.hid (btL2 B1.out b3); have R3 := Lib.hid (World.alloc_heap_new w3 (.cells #[.int .i64 r.wire, .int .i64 r.kind, .int .i64 r.src, .int .i64 r.dst, .int .u32 (r.life : Int), .int .u32 (r.seq : Int), .int .u32 (r.ack : Int), .int .u32 (r.hint : Int), .string r.data] 24)); clear b3) | (go_at_call 19; (with_reducible refine (HDR.out _).mono ?_); rintro e w4 ⟨rfl, b4⟩; have B4 := Lib.hid ((btL2 (B3.out.alloc B3.out.size (.cells #[.int .i64 r.wire, .int .i64 r.kind, .int .i64 r.src, .int .i64 r.dst, .int .u32 (r.life : Int), .int .u32 (r.seq : Int), .int .u32 (r.ack : Int), .int .u32 (r.hint : Int), .string r.data] 24)) b4).alloc (btL2 (B3.out.alloc B3.out.size (.cells #[.int .i64 r.wire, .int .i64 r.kind, .int .i64 r.src, .int .i64 r.dst, .int .u32 (r.life : Int), .int .u32 (r.seq : Int), .int .u32 (r.ack : Int), .int .u32 (r.hint : Int), .string r.data] 24)) b4).size (.cells #[.int .i64 r.wire, .int .i64 r.kind, .int .i64 r.src, .int .i64 r.dst, .int .u32 (r.life : Int), .int .u32 (r.seq : Int), .int .u32 (r.ack : Int), .int .u32 (r.hint : Int), .string r.data] 24)); obtain ⟨p0, p1, p2, p3, p4, p5, p6, p7, p8, _, _⟩ := cells9 (obj_alloc (obj_below R3.out b4 (obj_lt R3.out)) (.cells #[.int .i64 r.wire, .int .i64 r.kind, .int .i64 r.src, .int .i64 r.dst, .int .u32 (r.life : Int), .int .u32 (r.seq : Int), .int .u32 (r.ack : Int), .int .u32 (r.hint : Int), .string r.data] 24)); clear b4))
      go_ret
      exact ⟨rfl, B4.out⟩
    · rw [Nat.min_eq_right (by omega)] at hcd
      have hq5 : (s.size : Int) = 5000 := by omega
      generalize cutD s = u at *
      subst hcd
      clear h
      go_enter Tryd.func4, Tryd.ntmps4
      go_wp2_with (first | (go_at_call 11; (with_reducible refine (HSH.out _ (Below.refl _ w)).mono ?_); rintro e w1 ⟨rfl, b1⟩; have B1 := Lib.hid b1; clear b1) | (go_at_call 18; (with_reducible refine (HDE.out _ B1.out).mono ?_); rintro e w3 ⟨rfl, b3⟩; have B3 := Lib.hid (btL2 B1.out b3); have R3 := Lib.hid (World.alloc_heap_new w3 (.cells #[.int .i64 r.wire, .int .i64 r.kind, .int .i64 r.src, .int .i64 r.dst, .int .u32 (r.life : Int), .int .u32 (r.seq : Int), .int .u32 (r.ack : Int), .int .u32 (r.hint : Int), .string r.data] 24)); clear b3) | (go_at_call 19; (with_reducible refine (HDR.out _).mono ?_); rintro e w4 ⟨rfl, b4⟩; have B4 := Lib.hid ((btL2 (B3.out.alloc B3.out.size (.cells #[.int .i64 r.wire, .int .i64 r.kind, .int .i64 r.src, .int .i64 r.dst, .int .u32 (r.life : Int), .int .u32 (r.seq : Int), .int .u32 (r.ack : Int), .int .u32 (r.hint : Int), .string r.data] 24)) b4).alloc (btL2 (B3.out.alloc B3.out.size (.cells #[.int .i64 r.wire, .int .i64 r.kind, .int .i64 r.src, .int .i64 r.dst, .int .u32 (r.life : Int), .int .u32 (r.seq : Int), .int .u32 (r.ack : Int), .int .u32 (r.hint : Int), .string r.data] 24)) b4).size (.cells #[.int .i64 r.wire, .int .i64 r.kind, .int .i64 r.src, .int .i64 r.dst, .int .u32 (r.life : Int), .int .u32 (r.seq : Int), .int .u32 (r.ack : Int), .int .u32 (r.hint : Int), .string r.data] 24)); obtain ⟨p0, p1, p2, p3, p4, p5, p6, p7, p8, _, _⟩ := cells9 (obj_alloc (obj_below R3.out b4 (obj_lt R3.out)) (.cells #[.int .i64 r.wire, .int .i64 r.kind, .int .i64 r.src, .int .i64 r.dst, .int .u32 (r.life : Int), .int .u32 (r.seq : Int), .int .u32 (r.ack : Int), .int .u32 (r.hint : Int), .string r.data] 24)); clear b4))
      go_ret
      exact ⟨rfl, B4.out⟩
    · rw [Nat.min_eq_right (by omega)] at hcd
      have hq5 : (5000 : Int) < (s.size : Int) := by omega
      generalize cutD s = u at *
      subst hcd
      clear h
      go_enter Tryd.func4, Tryd.ntmps4
      go_wp2_with (first | (go_at_call 11; (with_reducible refine (HSH.out _ (Below.refl _ w)).mono ?_); rintro e w1 ⟨rfl, b1⟩; have B1 := Lib.hid b1; clear b1) | (go_at_call 18; (with_reducible refine (HDE.out _ B1.out).mono ?_); rintro e w3 ⟨rfl, b3⟩; have B3 := Lib.hid (btL2 B1.out b3); have R3 := Lib.hid (World.alloc_heap_new w3 (.cells #[.int .i64 r.wire, .int .i64 r.kind, .int .i64 r.src, .int .i64 r.dst, .int .u32 (r.life : Int), .int .u32 (r.seq : Int), .int .u32 (r.ack : Int), .int .u32 (r.hint : Int), .string r.data] 24)); clear b3) | (go_at_call 19; (with_reducible refine (HDR.out _).mono ?_); rintro e w4 ⟨rfl, b4⟩; have B4 := Lib.hid ((btL2 (B3.out.alloc B3.out.size (.cells #[.int .i64 r.wire, .int .i64 r.kind, .int .i64 r.src, .int .i64 r.dst, .int .u32 (r.life : Int), .int .u32 (r.seq : Int), .int .u32 (r.ack : Int), .int .u32 (r.hint : Int), .string r.data] 24)) b4).alloc (btL2 (B3.out.alloc B3.out.size (.cells #[.int .i64 r.wire, .int .i64 r.kind, .int .i64 r.src, .int .i64 r.dst, .int .u32 (r.life : Int), .int .u32 (r.seq : Int), .int .u32 (r.ack : Int), .int .u32 (r.hint : Int), .string r.data] 24)) b4).size (.cells #[.int .i64 r.wire, .int .i64 r.kind, .int .i64 r.src, .int .i64 r.dst, .int .u32 (r.life : Int), .int .u32 (r.seq : Int), .int .u32 (r.ack : Int), .int .u32 (r.hint : Int), .string r.data] 24)); obtain ⟨p0, p1, p2, p3, p4, p5, p6, p7, p8, _, _⟩ := cells9 (obj_alloc (obj_below R3.out b4 (obj_lt R3.out)) (.cells #[.int .i64 r.wire, .int .i64 r.kind, .int .i64 r.src, .int .i64 r.dst, .int .u32 (r.life : Int), .int .u32 (r.seq : Int), .int .u32 (r.ack : Int), .int .u32 (r.hint : Int), .string r.data] 24)); clear b4))
      go_ret
      exact ⟨rfl, B4.out⟩
  | true =>
    have hts := sealD_size (cutD s)
    have HSE := Lib.hid (fun W => refseal_any (cutD s) W (by omega))
    have HDE := Lib.hid (fun (W : World) (hb : Below w.heap.size w W) => decode_any (str (bl (cutD s) ++ toB 4 (sum (bl (cutD s))))) a0 a1 W (by omega) (hS.below hb))
    have HDR := Lib.hid (fun W => refdecode_any (str (bl (cutD s) ++ toB 4 (sum (bl (cutD s))))) W (by omega))
    generalize decR (str (bl (cutD s) ++ toB 4 (sum (bl (cutD s))))) = r at *
    generalize decE (str (bl (cutD s) ++ toB 4 (sum (bl (cutD s))))) = re at *
    generalize (str (bl (cutD s) ++ toB 4 (sum (bl (cutD s))))) = v at *
    clear hts
    unfold frV at HDE HDR
    clear hS hsl hcs
    have h3 : s.size < 5000 ∨ s.size = 5000 ∨ 5000 < s.size := by omega
    rcases h3 with h | h | h
    · have HSL : ∀ W, (Instr.slice 9 (.string s) none (some (.int .i64 (s.size : Int))) none).run Tryd.prog W = .ok (.string (cutD s)) W := fun W => by
        rw [hcd, Nat.min_eq_left (by omega)]
        exact slF_h (P := Tryd.prog) Tryd.underlying9 s s.size (Nat.le_refl _) _ rfl W
      have hq5 : ((s.size : Int)) < 5000 := by omega
      clear h hcd
      generalize cutD s = u at *
      go_enter Tryd.func4, Tryd.ntmps4
      go_wp2_with (first | (go_at_call 11; (with_reducible refine (HSH.out _ (Below.refl _ w)).mono ?_); rintro e w1 ⟨rfl, b1⟩; have B1 := Lib.hid b1; clear b1) | (go_at_call 17; (with_reducible refine (HSE.out _).mono ?_); rintro e w2 ⟨rfl, b2⟩; have B2 := Lib.hid (btL2 B1.out b2); clear b2) | (go_at_call 18; (with_reducible refine (HDE.out _ B2.out).mono ?_); rintro e w3 ⟨rfl, b3⟩; have B3 := Lib.hid (btL2 B2.out b3); have R3 := Lib.hid (World.alloc_heap_new w3 (.cells #[.int .i64 r.wire, .int .i64 r.kind, .int .i64 r.src, .int .i64 r.dst, .int .u32 (r.life : Int), .int .u32 (r.seq : Int), .int .u32 (r.ack : Int), .int .u32 (r.hint : Int), .string r.data] 24)); clear b3) | (go_at_call 19; (with_reducible refine (HDR.out _).mono ?_); rintro e w4 ⟨rfl, b4⟩; have B4 := Lib.hid ((btL2 (B3.out.alloc B3.out.size (.cells #[.int .i64 r.wire, .int .i64 r.kind, .int .i64 r.src, .int .i64 r.dst, .int .u32 (r.life : Int), .int .u32 (r.seq : Int), .int .u32 (r.ack : Int), .int .u32 (r.hint : Int), .string r.data] 24)) b4).alloc (btL2 (B3.out.alloc B3.out.size (.cells #[.int .i64 r.wire, .int .i64 r.kind, .int .i64 r.src, .int .i64 r.dst, .int .u32 (r.life : Int), .int .u32 (r.seq : Int), .int .u32 (r.ack : Int), .int .u32 (r.hint : Int), .string r.data] 24)) b4).size (.cells #[.int .i64 r.wire, .int .i64 r.kind, .int .i64 r.src, .int .i64 r.dst, .int .u32 (r.life : Int), .int .u32 (r.seq : Int), .int .u32 (r.ack : Int), .int .u32 (r.hint : Int), .string r.data] 24)); obtain ⟨p0, p1, p2, p3, p4, p5, p6, p7, p8, _, _⟩ := cells9 (obj_alloc (obj_below R3.out b4 (obj_lt R3.out)) (.cells #[.int .i64 r.wire, .int .i64 r.kind, .int .i64 r.src, .int .i64 r.dst, .int .u32 (r.life : Int), .int .u32 (r.seq : Int), .int .u32 (r.ack : Int), .int .u32 (r.hint : Int), .string r.data] 24)); clear b4))
      go_ret
      exact ⟨rfl, B4.out⟩
    · rw [Nat.min_eq_right (by omega)] at hcd
      have hq5 : (s.size : Int) = 5000 := by omega
      generalize cutD s = u at *
      subst hcd
      clear h
      go_enter Tryd.func4, Tryd.ntmps4
      go_wp2_with (first | (go_at_call 11; (with_reducible refine (HSH.out _ (Below.refl _ w)).mono ?_); rintro e w1 ⟨rfl, b1⟩; have B1 := Lib.hid b1; clear b1) | (go_at_call 17; (with_reducible refine (HSE.out _).mono ?_); rintro e w2 ⟨rfl, b2⟩; have B2 := Lib.hid (btL2 B1.out b2); clear b2) | (go_at_call 18; (with_reducible refine (HDE.out _ B2.out).mono ?_); rintro e w3 ⟨rfl, b3⟩; have B3 := Lib.hid (btL2 B2.out b3); have R3 := Lib.hid (World.alloc_heap_new w3 (.cells #[.int .i64 r.wire, .int .i64 r.kind, .int .i64 r.src, .int .i64 r.dst, .int .u32 (r.life : Int), .int .u32 (r.seq : Int), .int .u32 (r.ack : Int), .int .u32 (r.hint : Int), .string r.data] 24)); clear b3) | (go_at_call 19; (with_reducible refine (HDR.out _).mono ?_); rintro e w4 ⟨rfl, b4⟩; have B4 := Lib.hid ((btL2 (B3.out.alloc B3.out.size (.cells #[.int .i64 r.wire, .int .i64 r.kind, .int .i64 r.src, .int .i64 r.dst, .int .u32 (r.life : Int), .int .u32 (r.seq : Int), .int .u32 (r.ack : Int), .int .u32 (r.hint : Int), .string r.data] 24)) b4).alloc (btL2 (B3.out.alloc B3.out.size (.cells #[.int .i64 r.wire, .int .i64 r.kind, .int .i64 r.src, .int .i64 r.dst, .int .u32 (r.life : Int), .int .u32 (r.seq : Int), .int .u32 (r.ack : Int), .int .u32 (r.hint : Int), .string r.data] 24)) b4).size (.cells #[.int .i64 r.wire, .int .i64 r.kind, .int .i64 r.src, .int .i64 r.dst, .int .u32 (r.life : Int), .int .u32 (r.seq : Int), .int .u32 (r.ack : Int), .int .u32 (r.hint : Int), .string r.data] 24)); obtain ⟨p0, p1, p2, p3, p4, p5, p6, p7, p8, _, _⟩ := cells9 (obj_alloc (obj_below R3.out b4 (obj_lt R3.out)) (.cells #[.int .i64 r.wire, .int .i64 r.kind, .int .i64 r.src, .int .i64 r.dst, .int .u32 (r.life : Int), .int .u32 (r.seq : Int), .int .u32 (r.ack : Int), .int .u32 (r.hint : Int), .string r.data] 24)); clear b4))
      go_ret
      exact ⟨rfl, B4.out⟩
    · rw [Nat.min_eq_right (by omega)] at hcd
      have hq5 : (5000 : Int) < (s.size : Int) := by omega
      generalize cutD s = u at *
      subst hcd
      clear h
      go_enter Tryd.func4, Tryd.ntmps4
      go_wp2_with (first | (go_at_call 11; (with_reducible refine (HSH.out _ (Below.refl _ w)).mono ?_); rintro e w1 ⟨rfl, b1⟩; have B1 := Lib.hid b1; clear b1) | (go_at_call 17; (with_reducible refine (HSE.out _).mono ?_); rintro e w2 ⟨rfl, b2⟩; have B2 := Lib.hid (btL2 B1.out b2); clear b2) | (go_at_call 18; (with_reducible refine (HDE.out _ B2.out).mono ?_); rintro e w3 ⟨rfl, b3⟩; have B3 := Lib.hid (btL2 B2.out b3); have R3 := Lib.hid (World.alloc_heap_new w3 (.cells #[.int .i64 r.wire, .int .i64 r.kind, .int .i64 r.src, .int .i64 r.dst, .int .u32 (r.life : Int), .int .u32 (r.seq : Int), .int .u32 (r.ack : Int), .int .u32 (r.hint : Int), .string r.data] 24)); clear b3) | (go_at_call 19; (with_reducible refine (HDR.out _).mono ?_); rintro e w4 ⟨rfl, b4⟩; have B4 := Lib.hid ((btL2 (B3.out.alloc B3.out.size (.cells #[.int .i64 r.wire, .int .i64 r.kind, .int .i64 r.src, .int .i64 r.dst, .int .u32 (r.life : Int), .int .u32 (r.seq : Int), .int .u32 (r.ack : Int), .int .u32 (r.hint : Int), .string r.data] 24)) b4).alloc (btL2 (B3.out.alloc B3.out.size (.cells #[.int .i64 r.wire, .int .i64 r.kind, .int .i64 r.src, .int .i64 r.dst, .int .u32 (r.life : Int), .int .u32 (r.seq : Int), .int .u32 (r.ack : Int), .int .u32 (r.hint : Int), .string r.data] 24)) b4).size (.cells #[.int .i64 r.wire, .int .i64 r.kind, .int .i64 r.src, .int .i64 r.dst, .int .u32 (r.life : Int), .int .u32 (r.seq : Int), .int .u32 (r.ack : Int), .int .u32 (r.hint : Int), .string r.data] 24)); obtain ⟨p0, p1, p2, p3, p4, p5, p6, p7, p8, _, _⟩ := cells9 (obj_alloc (obj_below R3.out b4 (obj_lt R3.out)) (.cells #[.int .i64 r.wire, .int .i64 r.kind, .int .i64 r.src, .int .i64 r.dst, .int .u32 (r.life : Int), .int .u32 (r.seq : Int), .int .u32 (r.ack : Int), .int .u32 (r.hint : Int), .string r.data] 24)); clear b4))
      go_ret
      exact ⟨rfl, B4.out⟩
end Go.Proofs.YtcbihioflmfgjaaDoor
