/-
  FrameBytes: the walk. Conditions: the frame is as its type allows; the two sentinels stand in memory.
-/
import Derived.Test.YtcbihioflmfgjaaDoorFrmT
namespace Go.Proofs.YtcbihioflmfgjaaDoor
open Go.RowKit Go.Shelf Ros Go.Maps
attribute [local go_sem] Oper.semAt_some
set_option linter.unusedVariables false
set_option maxRecDepth 100000 in
set_option maxHeartbeats 4000000 in
theorem frameBytes_walk (x : Fr) (h : okF x) (a0 a1 : Addr) (w : World) (hS : Snt w a0 a1) : Calls Tryd.prog 3 #[frV x] w fun e w' => e = .returned (.bool true) ∧ Below w.heap.size w w' := by
  have HSH := Lib.hid (fun (W : World) (h : Below w.heap.size w W) => shownF_any a0 a1 W (hS.below h))
  have hxo := World.alloc_heap_new w (.cells #[.int .i64 x.wire, .int .i64 x.kind, .int .i64 x.src, .int .i64 x.dst, .int .u32 (x.life : Int), .int .u32 (x.seq : Int), .int .u32 (x.ack : Int), .int .u32 (x.hint : Int), .string x.data] 24)
  have HX := Lib.hid hxo
  clear hxo
  have HCT := Lib.hid (fun W => cutF_any x W)
  have hy := cutX_ok h
  have hyd := cutX_size x
  generalize cutX x = y at *
  have HEN := Lib.hid (fun W => encode_any y hy W)
  have HRE := Lib.hid (fun W => refencode_any y hy W)
  have HRT := Lib.hid (fun W => right_any y hy W)
  have HRR := Lib.hid (fun W => refright_any y hy W)
  generalize encS y = E at *
  generalize encE y = eE at *
  cases rightB y
  all_goals
    unfold frV at HCT HEN HRE HRT HRR ⊢
    clear hS h hy hyd
    go_enter Tryd.func3, Tryd.ntmps3
    go_upto_region 5 with (first | (go_at_call 11; (with_reducible refine (HSH.out _ ((Below.refl _ w).alloc (Nat.le_refl _) _)).mono ?_); rintro e w1 ⟨rfl, b1⟩; have B1 := Lib.hid (below_bx b1); have X1 := Lib.hid (obj_below HX.out b1 (obj_lt HX.out)); obtain ⟨x0, x1, x2, x3, x4, x5, x6, x7, x8, _, _⟩ := cells9 X1.out; clear b1) | (go_at_call 12; (with_reducible refine (HCT.out _).mono ?_); rintro e w2 ⟨rfl, b2⟩; have B2 := Lib.hid (btL2 B1.out b2); have X2 := Lib.hid (obj_below X1.out b2 (obj_lt X1.out)); have ST := Lib.hid (fr_stored0 (.int .i64 y.wire) (.int .i64 y.kind) (.int .i64 y.src) (.int .i64 y.dst) (.int .u32 (y.life : Int)) (.int .u32 (y.seq : Int)) (.int .u32 (y.ack : Int)) (.int .u32 (y.hint : Int)) (.string y.data) X2.out); obtain ⟨y0, y1, y2, y3, y4, y5, y6, y7, y8, yf, yl⟩ := cells9 X2.out; have k0 := yf 0; have k1 := yf 1; have k2 := yf 2; have k3 := yf 3; have k4 := yf 4; have k5 := yf 5; have k6 := yf 6; have k7 := yf 7; have k8 := yf 8; clear yf yl; clear b2) | (go_at_call 13; (with_reducible refine (HEN.out _).mono ?_); rintro e w3 ⟨rfl, b3⟩; have B3 := Lib.hid (btL2 (ST.out.below _ _ (Nat.le_refl _) B2.out) b3); have Y3 := Lib.hid (obj_below ST.out.at_ b3 (obj_lt ST.out.at_)); obtain ⟨z0, z1, z2, z3, z4, z5, z6, z7, z8, _, _⟩ := cells9 Y3.out; clear b3) | (go_at_call 14; (with_reducible refine (HRE.out _).mono ?_); rintro e w4 ⟨rfl, b4⟩; have B4 := Lib.hid (btL2 B3.out b4); have Y4 := Lib.hid (obj_below Y3.out b4 (obj_lt Y3.out)); obtain ⟨v0, v1, v2, v3, v4, v5, v6, v7, v8, _, _⟩ := cells9 Y4.out; clear b4))
    clear x0 x1 x2 x3 x4 x5 x6 x7 x8 y0 y1 y2 y3 y4 y5 y6 y7 y8 k0 k1 k2 k3 k4 k5 k6 k7 k8 z0 z1 z2 z3 z4 z5 z6 z7 z8
    have g0 := fun d os => cell_regrown v0 d os
    have g1 := fun d os => cell_regrown v1 d os
    have g2 := fun d os => cell_regrown v2 d os
    have g3 := fun d os => cell_regrown v3 d os
    have g4 := fun d os => cell_regrown v4 d os
    have g5 := fun d os => cell_regrown v5 d os
    have g6 := fun d os => cell_regrown v6 d os
    have g7 := fun d os => cell_regrown v7 d os
    have g8 := fun d os => cell_regrown v8 d os
    have q1 : ∀ d os, _ := fun d os => Calls.regrown_of (HRT.out (Sort.grow (redrawn w4 d) os))
    have q2 : ∀ d os, _ := fun d os => Calls.regrown_of (HRR.out (Sort.grow (redrawn w4 d) os))
    refine wp_region_quiet_below (by kernel_rfl) (by kernel_rfl) ?_
    repeat (go_big_quiet_step (first | with_reducible exact q1 _ _ | with_reducible exact q2 _ _))
    refine wpQuiet_nil ?_
    intro _ hw'
    obtain ⟨⟨dq, osq⟩, hw''⟩ := hw'
    subst hw''
    go_wp2
    go_ret
    exact ⟨rfl, btL2 B4.out (below_regrown w4 dq osq)⟩
end Go.Proofs.YtcbihioflmfgjaaDoor
