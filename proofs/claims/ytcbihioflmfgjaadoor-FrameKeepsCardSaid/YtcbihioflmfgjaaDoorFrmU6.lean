/-
  FrameKeeps: the walk. Conditions: the frame is as its type allows; the two sentinels stand in memory.
-/
import Derived.Test.YtcbihioflmfgjaaDoorFrmT
namespace Go.Proofs.YtcbihioflmfgjaaDoor
open Go.RowKit Go.Shelf Ros Go.Maps
attribute [local go_sem] Oper.semAt_some
set_option linter.unusedVariables false
set_option maxRecDepth 100000 in
set_option maxHeartbeats 4000000 in
theorem frameKeeps_walk (x : Fr) (h : okF x) (a0 a1 : Addr) (w : World) (hS : Snt w a0 a1) : Calls Tryd.prog 9 #[frV x] w fun e w' => e = .returned (.bool true) ∧ Below w.heap.size w w' := by
  have HSH := Lib.hid (fun (W : World) (h : Below w.heap.size w W) => shownF_any a0 a1 W (hS.below h))
  have hxo := World.alloc_heap_new w (.cells #[.int .i64 x.wire, .int .i64 x.kind, .int .i64 x.src, .int .i64 x.dst, .int .u32 (x.life : Int), .int .u32 (x.seq : Int), .int .u32 (x.ack : Int), .int .u32 (x.hint : Int), .string x.data] 24)
  have HX := Lib.hid hxo
  clear hxo
  have HCT := Lib.hid (fun W => cutF_any x W)
  have hy := cutX_ok h
  have hyd := cutX_size x
  generalize cutX x = y at *
  cases hr : rightB y with
  | true =>
    have hya : okF (turnF y 2) := ⟨by show -9223372036854775808 ≤ (2 : Int) ∧ (2 : Int) ≤ 9223372036854775807; omega, hy.kind, hy.src, hy.dst, hy.life, hy.seq, hy.ack, by show (if (2 : Int) = 1 then 0 else y.hint) < 4294967296; rw [if_neg (by decide)]; exact hy.hint, hy.data⟩
    have hyb : okF (turnF (turnF y 2) 1) := ⟨by show -9223372036854775808 ≤ (1 : Int) ∧ (1 : Int) ≤ 9223372036854775807; omega, hy.kind, hy.src, hy.dst, hy.life, hy.seq, hy.ack, (by omega : (0 : Nat) < 4294967296), hy.data⟩
    obtain ⟨g1, g2, g3, g4, g5, g6⟩ := (of_decide_eq_true hr : rightP y)
    have ra : rightB (turnF y 2) = true := decide_eq_true (show rightP (turnF y 2) from ⟨.inr rfl, g2, g3, g4, g5, .inl rfl⟩)
    have rb : rightB (turnF (turnF y 2) 1) = true := decide_eq_true (show rightP (turnF (turnF y 2) 1) from ⟨.inl rfl, g2, g3, g4, g5, .inr rfl⟩)
    have HTU := Lib.hid (fun W => (show Calls Tryd.prog 20 #[frV y, .int .i64 2] W fun e w' => e = .returned (.tuple #[.agg #[.int .i64 2, .int .i64 y.kind, .int .i64 y.src, .int .i64 y.dst, .int .u32 (y.life : Int), .int .u32 (y.seq : Int), .int .u32 (y.ack : Int), .int .u32 (y.hint : Int), .string y.data], .int .i64 0]) ∧ Below W.heap.size W w' from by
      have := turn_any y hy 2 ⟨by omega, by omega⟩ W
      unfold turnR turnE at this
      rw [hr, if_pos rfl, if_pos rfl, if_pos (.inr rfl), if_pos (.inr rfl)] at this
      exact this))
    have HTV := Lib.hid (fun W => (show Calls Tryd.prog 20 #[.agg #[.int .i64 2, .int .i64 y.kind, .int .i64 y.src, .int .i64 y.dst, .int .u32 (y.life : Int), .int .u32 (y.seq : Int), .int .u32 (y.ack : Int), .int .u32 (y.hint : Int), .string y.data], .int .i64 1] W fun e w' => e = .returned (.tuple #[.agg #[.int .i64 1, .int .i64 y.kind, .int .i64 y.src, .int .i64 y.dst, .int .u32 (y.life : Int), .int .u32 (y.seq : Int), .int .u32 (y.ack : Int), .int .u32 0, .string y.data], .int .i64 0]) ∧ Below W.heap.size W w' from by
      have := turn_any (turnF y 2) hya 1 ⟨by omega, by omega⟩ W
      unfold turnR turnE at this
      rw [ra, if_pos rfl, if_pos rfl, if_pos (.inl rfl), if_pos (.inl rfl)] at this
      exact this))
    have HRA := Lib.hid (fun W => (show Calls Tryd.prog 15 #[.agg #[.int .i64 2, .int .i64 y.kind, .int .i64 y.src, .int .i64 y.dst, .int .u32 (y.life : Int), .int .u32 (y.seq : Int), .int .u32 (y.ack : Int), .int .u32 (y.hint : Int), .string y.data]] W fun e w' => e = .returned (.bool true) ∧ Below W.heap.size W w' from by
      have := right_any (turnF y 2) hya W
      rw [ra] at this
      exact this))
    have HRB := Lib.hid (fun W => (show Calls Tryd.prog 15 #[.agg #[.int .i64 1, .int .i64 y.kind, .int .i64 y.src, .int .i64 y.dst, .int .u32 (y.life : Int), .int .u32 (y.seq : Int), .int .u32 (y.ack : Int), .int .u32 0, .string y.data]] W fun e w' => e = .returned (.bool true) ∧ Below W.heap.size W w' from by
      have := right_any (turnF (turnF y 2) 1) hyb W
      rw [rb] at this
      exact this))
    unfold frV at HCT HTU ⊢
    clear hS h hy hyd hr hya hyb g1 g2 g3 g4 g5 g6 ra rb
    go_enter Tryd.func9, Tryd.ntmps9
    go_wp2_with (first | (go_at_call 11; (with_reducible refine (HSH.out _ ((Below.refl _ w).alloc (Nat.le_refl _) _)).mono ?_); rintro e w1 ⟨rfl, b1⟩; have B1 := Lib.hid (below_bx b1); have X1 := Lib.hid (obj_below HX.out b1 (obj_lt HX.out)); obtain ⟨x0, x1, x2, x3, x4, x5, x6, x7, x8, _, _⟩ := cells9 X1.out; clear b1) | (go_at_call 12; (with_reducible refine (HCT.out _).mono ?_); rintro e w2 ⟨rfl, b2⟩; have B2 := Lib.hid (btL2 B1.out b2); have X2 := Lib.hid (obj_below X1.out b2 (obj_lt X1.out)); have ST := Lib.hid (fr_stored0 (.int .i64 y.wire) (.int .i64 y.kind) (.int .i64 y.src) (.int .i64 y.dst) (.int .u32 (y.life : Int)) (.int .u32 (y.seq : Int)) (.int .u32 (y.ack : Int)) (.int .u32 (y.hint : Int)) (.string y.data) X2.out); obtain ⟨y0, y1, y2, y3, y4, y5, y6, y7, y8, yf, yl⟩ := cells9 X2.out; have k0 := yf 0; have k1 := yf 1; have k2 := yf 2; have k3 := yf 3; have k4 := yf 4; have k5 := yf 5; have k6 := yf 6; have k7 := yf 7; have k8 := yf 8; clear yf yl; clear b2) | (go_at_call 20; (with_reducible refine (HTU.out _).mono ?_); rintro e w3 ⟨rfl, b3⟩; have B3 := Lib.hid (btL2 (ST.out.below _ _ (Nat.le_refl _) B2.out) b3); have Y3 := Lib.hid (obj_alloc (obj_below ST.out.at_ b3 (obj_lt ST.out.at_)) (.cells #[.int .i64 2, .int .i64 y.kind, .int .i64 y.src, .int .i64 y.dst, .int .u32 (y.life : Int), .int .u32 (y.seq : Int), .int .u32 (y.ack : Int), .int .u32 (y.hint : Int), .string y.data] 24)); obtain ⟨z0, z1, z2, z3, z4, z5, z6, z7, z8, _, _⟩ := cells9 Y3.out; have A3 := Lib.hid (World.alloc_heap_new w3 (.cells #[.int .i64 2, .int .i64 y.kind, .int .i64 y.src, .int .i64 y.dst, .int .u32 (y.life : Int), .int .u32 (y.seq : Int), .int .u32 (y.ack : Int), .int .u32 (y.hint : Int), .string y.data] 24)); clear b3) | (go_at_call 20; (with_reducible refine (HTV.out _).mono ?_); rintro e w4 ⟨rfl, b4⟩; have B4 := Lib.hid (btL2 (B3.out.alloc B3.out.size (.cells #[.int .i64 2, .int .i64 y.kind, .int .i64 y.src, .int .i64 y.dst, .int .u32 (y.life : Int), .int .u32 (y.seq : Int), .int .u32 (y.ack : Int), .int .u32 (y.hint : Int), .string y.data] 24)) b4); have Y4 := Lib.hid (obj_alloc (obj_below Y3.out b4 (obj_lt Y3.out)) (.cells #[.int .i64 1, .int .i64 y.kind, .int .i64 y.src, .int .i64 y.dst, .int .u32 (y.life : Int), .int .u32 (y.seq : Int), .int .u32 (y.ack : Int), .int .u32 0, .string y.data] 24)); obtain ⟨y0, y1, y2, y3, y4, y5, y6, y7, y8, _, _⟩ := cells9 Y4.out; have A4 := Lib.hid (obj_alloc (obj_alloc (obj_below A3.out b4 (obj_lt A3.out)) (.cells #[.int .i64 1, .int .i64 y.kind, .int .i64 y.src, .int .i64 y.dst, .int .u32 (y.life : Int), .int .u32 (y.seq : Int), .int .u32 (y.ack : Int), .int .u32 0, .string y.data] 24)) (.cells #[.int .i64 1, .int .i64 y.kind, .int .i64 y.src, .int .i64 y.dst, .int .u32 (y.life : Int), .int .u32 (y.seq : Int), .int .u32 (y.ack : Int), .int .u32 0, .string y.data] 24)); have D4 := Lib.hid (obj_alloc (World.alloc_heap_new w4 (.cells #[.int .i64 1, .int .i64 y.kind, .int .i64 y.src, .int .i64 y.dst, .int .u32 (y.life : Int), .int .u32 (y.seq : Int), .int .u32 (y.ack : Int), .int .u32 0, .string y.data] 24)) (.cells #[.int .i64 1, .int .i64 y.kind, .int .i64 y.src, .int .i64 y.dst, .int .u32 (y.life : Int), .int .u32 (y.seq : Int), .int .u32 (y.ack : Int), .int .u32 0, .string y.data] 24)); have E4 := Lib.hid (World.alloc_heap_new (w4.alloc (.cells #[.int .i64 1, .int .i64 y.kind, .int .i64 y.src, .int .i64 y.dst, .int .u32 (y.life : Int), .int .u32 (y.seq : Int), .int .u32 (y.ack : Int), .int .u32 0, .string y.data] 24)) (.cells #[.int .i64 1, .int .i64 y.kind, .int .i64 y.src, .int .i64 y.dst, .int .u32 (y.life : Int), .int .u32 (y.seq : Int), .int .u32 (y.ack : Int), .int .u32 0, .string y.data] 24)); have YY4 := Lib.hid (obj_alloc Y4.out (.cells #[.int .i64 1, .int .i64 y.kind, .int .i64 y.src, .int .i64 y.dst, .int .u32 (y.life : Int), .int .u32 (y.seq : Int), .int .u32 (y.ack : Int), .int .u32 0, .string y.data] 24)); obtain ⟨p0, p1, p2, p3, p4, p5, p6, p7, p8, _, _⟩ := cells9 A4.out; have hs4 : (w4.alloc (.cells #[.int .i64 1, .int .i64 y.kind, .int .i64 y.src, .int .i64 y.dst, .int .u32 (y.life : Int), .int .u32 (y.seq : Int), .int .u32 (y.ack : Int), .int .u32 0, .string y.data] 24)).heap.size = w4.heap.size + 1 := World.size_alloc _ _; clear b4) | (go_at_call 15; (with_reducible refine (HRA.out _).mono ?_); rintro e w5 ⟨rfl, b5⟩; have B5 := Lib.hid (btL2 ((B4.out.alloc B4.out.size (.cells #[.int .i64 1, .int .i64 y.kind, .int .i64 y.src, .int .i64 y.dst, .int .u32 (y.life : Int), .int .u32 (y.seq : Int), .int .u32 (y.ack : Int), .int .u32 0, .string y.data] 24)).alloc (B4.out.alloc B4.out.size (.cells #[.int .i64 1, .int .i64 y.kind, .int .i64 y.src, .int .i64 y.dst, .int .u32 (y.life : Int), .int .u32 (y.seq : Int), .int .u32 (y.ack : Int), .int .u32 0, .string y.data] 24)).size (.cells #[.int .i64 1, .int .i64 y.kind, .int .i64 y.src, .int .i64 y.dst, .int .u32 (y.life : Int), .int .u32 (y.seq : Int), .int .u32 (y.ack : Int), .int .u32 0, .string y.data] 24)) b5); have Y5 := Lib.hid (obj_below YY4.out b5 (obj_lt YY4.out)); have A5 := Lib.hid (obj_below A4.out b5 (obj_lt A4.out)); have D5 := Lib.hid (obj_below D4.out b5 (obj_lt D4.out)); have E5 := Lib.hid (obj_below E4.out b5 (obj_lt E4.out)); obtain ⟨q0, q1, q2, q3, q4, q5, q6, q7, q8, _, _⟩ := cells9 D5.out; clear b5) | (go_at_call 15; (with_reducible refine (HRB.out _).mono ?_); rintro e w6 ⟨rfl, b6⟩; have B6 := Lib.hid (btL2 B5.out b6); obtain ⟨v0, v1, v2, v3, v4, v5, v6, v7, v8, _, _⟩ := cells9 (obj_below Y5.out b6 (obj_lt Y5.out)); obtain ⟨t0, t1, t2, t3, t4, t5, t6, t7, t8, _, _⟩ := cells9 (obj_below A5.out b6 (obj_lt A5.out)); obtain ⟨s0, s1, s2, s3, s4, s5, s6, s7, s8, _, _⟩ := cells9 (obj_below D5.out b6 (obj_lt D5.out)); obtain ⟨r0, r1, r2, r3, r4, r5, r6, r7, r8, _, _⟩ := cells9 (obj_below E5.out b6 (obj_lt E5.out)); simp only [World.size_alloc] at r0 r1 r2 r3 r4 r5 r6 r7 r8; clear b6))
    go_ret
    exact ⟨rfl, B6.out⟩
  | false =>
    have HTU := Lib.hid (fun W => turn_any y hy 2 ⟨by omega, by omega⟩ W)
    have hz : turnR y 2 = zeroFr := by unfold turnR; rw [hr]; rfl
    have he : turnE y 2 = 20 := by unfold turnE; rw [hr]; rfl
    have hro : okF (turnR y 2) := by rw [hz]; exact ⟨by decide, by decide, by decide, by decide, by decide, by decide, by decide, by decide, by decide⟩
    have HTV := Lib.hid (fun W => turn_any (turnR y 2) hro 1 ⟨by omega, by omega⟩ W)
    have HRT := Lib.hid (fun W => right_any y hy W)
    rw [hr] at HRT
    rw [he] at HTU
    clear hz he hro hr
    generalize turnR y 2 = r at *
    generalize turnR r 1 = rr at *
    generalize turnE r 1 = er at *
    unfold frV at HCT HTU HTV HRT ⊢
    clear hS h hy hyd
    go_enter Tryd.func9, Tryd.ntmps9
    go_wp2_with (first | (go_at_call 11; (with_reducible refine (HSH.out _ ((Below.refl _ w).alloc (Nat.le_refl _) _)).mono ?_); rintro e w1 ⟨rfl, b1⟩; have B1 := Lib.hid (below_bx b1); have X1 := Lib.hid (obj_below HX.out b1 (obj_lt HX.out)); obtain ⟨x0, x1, x2, x3, x4, x5, x6, x7, x8, _, _⟩ := cells9 X1.out; clear b1) | (go_at_call 12; (with_reducible refine (HCT.out _).mono ?_); rintro e w2 ⟨rfl, b2⟩; have B2 := Lib.hid (btL2 B1.out b2); have X2 := Lib.hid (obj_below X1.out b2 (obj_lt X1.out)); have ST := Lib.hid (fr_stored0 (.int .i64 y.wire) (.int .i64 y.kind) (.int .i64 y.src) (.int .i64 y.dst) (.int .u32 (y.life : Int)) (.int .u32 (y.seq : Int)) (.int .u32 (y.ack : Int)) (.int .u32 (y.hint : Int)) (.string y.data) X2.out); obtain ⟨y0, y1, y2, y3, y4, y5, y6, y7, y8, yf, yl⟩ := cells9 X2.out; have k0 := yf 0; have k1 := yf 1; have k2 := yf 2; have k3 := yf 3; have k4 := yf 4; have k5 := yf 5; have k6 := yf 6; have k7 := yf 7; have k8 := yf 8; clear yf yl; clear b2) | (go_at_call 20; (with_reducible refine (HTU.out _).mono ?_); rintro e w3 ⟨rfl, b3⟩; have B3 := Lib.hid (btL2 (ST.out.below _ _ (Nat.le_refl _) B2.out) b3); have Y3 := Lib.hid (obj_alloc (obj_below ST.out.at_ b3 (obj_lt ST.out.at_)) (.cells #[.int .i64 r.wire, .int .i64 r.kind, .int .i64 r.src, .int .i64 r.dst, .int .u32 (r.life : Int), .int .u32 (r.seq : Int), .int .u32 (r.ack : Int), .int .u32 (r.hint : Int), .string r.data] 24)); obtain ⟨z0, z1, z2, z3, z4, z5, z6, z7, z8, _, _⟩ := cells9 Y3.out; have R3 := Lib.hid (World.alloc_heap_new w3 (.cells #[.int .i64 r.wire, .int .i64 r.kind, .int .i64 r.src, .int .i64 r.dst, .int .u32 (r.life : Int), .int .u32 (r.seq : Int), .int .u32 (r.ack : Int), .int .u32 (r.hint : Int), .string r.data] 24)); clear b3) | (go_at_call 20; (with_reducible refine (HTV.out _).mono ?_); rintro e w4 ⟨rfl, b4⟩; have B4 := Lib.hid ((btL2 (B3.out.alloc B3.out.size (.cells #[.int .i64 r.wire, .int .i64 r.kind, .int .i64 r.src, .int .i64 r.dst, .int .u32 (r.life : Int), .int .u32 (r.seq : Int), .int .u32 (r.ack : Int), .int .u32 (r.hint : Int), .string r.data] 24)) b4).alloc (btL2 (B3.out.alloc B3.out.size (.cells #[.int .i64 r.wire, .int .i64 r.kind, .int .i64 r.src, .int .i64 r.dst, .int .u32 (r.life : Int), .int .u32 (r.seq : Int), .int .u32 (r.ack : Int), .int .u32 (r.hint : Int), .string r.data] 24)) b4).size (.cells #[.int .i64 rr.wire, .int .i64 rr.kind, .int .i64 rr.src, .int .i64 rr.dst, .int .u32 (rr.life : Int), .int .u32 (rr.seq : Int), .int .u32 (rr.ack : Int), .int .u32 (rr.hint : Int), .string rr.data] 24)); have Y4 := Lib.hid (obj_alloc (obj_below Y3.out b4 (obj_lt Y3.out)) (.cells #[.int .i64 rr.wire, .int .i64 rr.kind, .int .i64 rr.src, .int .i64 rr.dst, .int .u32 (rr.life : Int), .int .u32 (rr.seq : Int), .int .u32 (rr.ack : Int), .int .u32 (rr.hint : Int), .string rr.data] 24)); obtain ⟨y0, y1, y2, y3, y4, y5, y6, y7, y8, _, _⟩ := cells9 Y4.out; clear b4) | (go_at_call 15; (with_reducible refine (HRT.out _).mono ?_); rintro e w5 ⟨rfl, b5⟩; have B5 := Lib.hid (btL2 B4.out b5); clear b5))
    go_ret
    exact ⟨rfl, B5.out⟩
end Go.Proofs.YtcbihioflmfgjaaDoor
