/-
  FrameTurns: the walk. Conditions: the frame is as its type allows; the two sentinels stand in memory.
-/
import Derived.Test.YtcbihioflmfgjaaDoorFrmT
namespace Go.Proofs.YtcbihioflmfgjaaDoor
open Go.RowKit Go.Shelf Ros Go.Maps
attribute [local go_sem] Oper.semAt_some
set_option linter.unusedVariables false
set_option maxRecDepth 100000 in
set_option maxHeartbeats 4000000 in
theorem frameTurns_walk (x : Fr) (n m : Int) (h : okF x) (hn1 : -9223372036854775808 ≤ n) (hn2 : n ≤ 9223372036854775807) (hm1 : -9223372036854775808 ≤ m) (hm2 : m ≤ 9223372036854775807) (a0 a1 : Addr) (w : World) (hS : Snt w a0 a1) : Calls Tryd.prog 8 #[frV x, .int .i64 n, .int .i64 m] w fun e w' => e = .returned (.bool true) ∧ Below w.heap.size w w' := by
  have HSH := Lib.hid (fun (W : World) (h : Below w.heap.size w W) => shownF_any a0 a1 W (hS.below h))
  have hxo := World.alloc_heap_new w (.cells #[.int .i64 x.wire, .int .i64 x.kind, .int .i64 x.src, .int .i64 x.dst, .int .u32 (x.life : Int), .int .u32 (x.seq : Int), .int .u32 (x.ack : Int), .int .u32 (x.hint : Int), .string x.data] 24)
  have HX := Lib.hid hxo
  clear hxo
  have HCT := Lib.hid (fun W => cutF_any x W)
  have hy := cutX_ok h
  have hyd := cutX_size x
  generalize cutX x = y at *
  have HTU := Lib.hid (fun W => turn_any y hy n ⟨hn1, hn2⟩ W)
  have HRU := Lib.hid (fun W => refturn_any y hy n W)
  have HAG := Lib.hid (fun W => agree_any n m W ⟨hn1, hn2⟩ ⟨hm1, hm2⟩)
  have HRA := Lib.hid (fun W => refagree_any n m W)
  have heq := fun W => eql_fr (turnR y n) (turnR y n) W
  simp only [decide_true] at heq
  generalize turnR y n = r at *
  generalize turnE y n = re at *
  generalize agreeN n m = gn at *
  generalize agreeE n m = ge at *
  unfold frV at HCT HTU HRU heq ⊢
  clear hS h hy hyd hn1 hn2 hm1 hm2
  go_enter Tryd.func8, Tryd.ntmps8
  go_wp2_with (first | (go_at_call 11; (with_reducible refine (HSH.out _ ((Below.refl _ w).alloc (Nat.le_refl _) _)).mono ?_); rintro e w1 ⟨rfl, b1⟩; have B1 := Lib.hid (below_bx b1); have X1 := Lib.hid (obj_below HX.out b1 (obj_lt HX.out)); obtain ⟨x0, x1, x2, x3, x4, x5, x6, x7, x8, _, _⟩ := cells9 X1.out; clear b1) | (go_at_call 12; (with_reducible refine (HCT.out _).mono ?_); rintro e w2 ⟨rfl, b2⟩; have B2 := Lib.hid (btL2 B1.out b2); have X2 := Lib.hid (obj_below X1.out b2 (obj_lt X1.out)); have ST := Lib.hid (fr_stored0 (.int .i64 y.wire) (.int .i64 y.kind) (.int .i64 y.src) (.int .i64 y.dst) (.int .u32 (y.life : Int)) (.int .u32 (y.seq : Int)) (.int .u32 (y.ack : Int)) (.int .u32 (y.hint : Int)) (.string y.data) X2.out); obtain ⟨y0, y1, y2, y3, y4, y5, y6, y7, y8, yf, yl⟩ := cells9 X2.out; have k0 := yf 0; have k1 := yf 1; have k2 := yf 2; have k3 := yf 3; have k4 := yf 4; have k5 := yf 5; have k6 := yf 6; have k7 := yf 7; have k8 := yf 8; clear yf yl; clear b2) | (go_at_call 20; (with_reducible refine (HTU.out _).mono ?_); rintro e w3 ⟨rfl, b3⟩; have B3 := Lib.hid (btL2 (ST.out.below _ _ (Nat.le_refl _) B2.out) b3); have Y3 := Lib.hid (obj_alloc (obj_below ST.out.at_ b3 (obj_lt ST.out.at_)) (.cells #[.int .i64 r.wire, .int .i64 r.kind, .int .i64 r.src, .int .i64 r.dst, .int .u32 (r.life : Int), .int .u32 (r.seq : Int), .int .u32 (r.ack : Int), .int .u32 (r.hint : Int), .string r.data] 24)); obtain ⟨z0, z1, z2, z3, z4, z5, z6, z7, z8, _, _⟩ := cells9 Y3.out; have R3 := Lib.hid (World.alloc_heap_new w3 (.cells #[.int .i64 r.wire, .int .i64 r.kind, .int .i64 r.src, .int .i64 r.dst, .int .u32 (r.life : Int), .int .u32 (r.seq : Int), .int .u32 (r.ack : Int), .int .u32 (r.hint : Int), .string r.data] 24)); clear b3) | (go_at_call 21; (with_reducible refine (HRU.out _).mono ?_); rintro e w4 ⟨rfl, b4⟩; have B4 := Lib.hid (btL2 (B3.out.alloc B3.out.size (.cells #[.int .i64 r.wire, .int .i64 r.kind, .int .i64 r.src, .int .i64 r.dst, .int .u32 (r.life : Int), .int .u32 (r.seq : Int), .int .u32 (r.ack : Int), .int .u32 (r.hint : Int), .string r.data] 24)) b4); have R4 := Lib.hid (obj_alloc (obj_below R3.out b4 (obj_lt R3.out)) (.cells #[.int .i64 r.wire, .int .i64 r.kind, .int .i64 r.src, .int .i64 r.dst, .int .u32 (r.life : Int), .int .u32 (r.seq : Int), .int .u32 (r.ack : Int), .int .u32 (r.hint : Int), .string r.data] 24)); have S4 := Lib.hid (World.alloc_heap_new w4 (.cells #[.int .i64 r.wire, .int .i64 r.kind, .int .i64 r.src, .int .i64 r.dst, .int .u32 (r.life : Int), .int .u32 (r.seq : Int), .int .u32 (r.ack : Int), .int .u32 (r.hint : Int), .string r.data] 24)); clear b4) | (go_at_call 22; (with_reducible refine (HAG.out _).mono ?_); rintro e w5 ⟨rfl, b5⟩; have B5 := Lib.hid (btL2 (B4.out.alloc B4.out.size (.cells #[.int .i64 r.wire, .int .i64 r.kind, .int .i64 r.src, .int .i64 r.dst, .int .u32 (r.life : Int), .int .u32 (r.seq : Int), .int .u32 (r.ack : Int), .int .u32 (r.hint : Int), .string r.data] 24)) b5); have R5 := Lib.hid (obj_below R4.out b5 (obj_lt R4.out)); have S5 := Lib.hid (obj_below S4.out b5 (obj_lt S4.out)); obtain ⟨p0, p1, p2, p3, p4, p5, p6, p7, p8, _, _⟩ := cells9 R5.out; obtain ⟨q0, q1, q2, q3, q4, q5, q6, q7, q8, _, _⟩ := cells9 S5.out; clear b5) | (go_at_call 23; (with_reducible refine (HRA.out _).mono ?_); rintro e w6 ⟨rfl, rfl⟩))
  go_ret
  exact ⟨rfl, B5.out⟩
end Go.Proofs.YtcbihioflmfgjaaDoor
